/- A part of the proof of 'Rows.QueryReadUptoSaid': for every text and every seeds (of bulk at most 1048576 together) fathomlaw19.QueryRead returns true and its arguments read afterwards as before. -/
import Derived.Test.YtaikjbfkbijlnaaGreatF38
set_option linter.unusedVariables false
set_option linter.unusedSimpArgs false
namespace Go.Proofs.Fathom
open Go Go.Proofs
attribute [local irreducible] PSpec CSpec
/-! ### Objects, several at once -/
/-- A function that changes objects and makes none that last. -/
theorem lspec {f : FuncId} {ac : ACode} {res : List ARes} {nt : Nat} (hf : FnW Tryz.prog f ac res nt) {args : List V} {r : V} {L L' : List (Nat × AObj)} {n : Nat} (hlen : args.length ≤ nt) (hr : r.bd n = true) (hL' : ∀ p ∈ L', p.1 < n ∧ p.2.bd n = true)
    (h : awp Tryz.prog ac (retK res fun S v => v = r ∧ n ≤ S.nx ∧ ∀ p ∈ L', S.ob p.1 = some p.2) ⟨ofL (argL 0 args), Obs.ov (fun _ => none) L, n, nt, n⟩) : CS f args L n r L' n :=
  cspec' mixed hf hlen hr (Nat.le_refl _) hL' h
theorem ecall_l {P : Program} {f : FuncId} {caps args : List V} {sl : Nat → V} {ob : Obs} {nx nt bs : Nat} {K : St → V → Prop} {r : V} {L L' : List (Nat × AObj)} (h : CSpec P f (args ++ caps) L nx r L' nx) (hk : L'.map (·.1) = L.map (·.1)) (hL : ∀ p ∈ L, ob p.1 = some p.2) (hlt : ∀ p ∈ L, p.1 < nx)
    (hK : K ⟨sl, Obs.ov ob L', nx, nt, bs⟩ r) : ecallM P (.fn f caps) args ⟨sl, ob, nx, nt, bs⟩ K := by
  have h1 : ∀ {A B : List (Nat × AObj)}, A.map (·.1) = B.map (·.1) → ∀ p ∈ A, ∃ o, (p.1, o) ∈ B := fun {A B} e p hp => by
    have : p.1 ∈ B.map (·.1) := e ▸ List.mem_map_of_mem (f := (·.1)) hp
    obtain ⟨q, hq, hq2⟩ := List.mem_map.1 this
    exact ⟨q.2, by rw [← hq2]; exact hq⟩
  refine ecall_c h hL (h1 hk.symm) (fun p hp => ?_) (Nat.le_refl _) hK
  obtain ⟨o, ho⟩ := h1 hk p hp
  exact ⟨hlt (p.1, o) ho, .inl ⟨o, ho⟩⟩
theorem ecall_mc {P : Program} {f : FuncId} {caps args : List V} {sl : Nat → V} {ob : Obs} {nx nt bs i : Nat} {K : St → V → Prop} {r : V} {o o' : AObj} (h : CSpec P f (args ++ caps) [(i, o)] nx r [(i, o')] nx) (ho : ob i = some o) (hi : i < nx)
    (hk : K ⟨sl, upd ob i (some o'), nx, nt, bs⟩ r) : ecallM P (.fn f caps) args ⟨sl, ob, nx, nt, bs⟩ K :=
  ecall_l h rfl (by simpa using ho) (by simpa using hi) hk
/-! ### scope -/
def bndE (e : Ex) (i : Nat) : List ByteArray := if e.op = 21 ∨ (e.op = 22 ∧ i = 1) then [e.name] else if e.op = 20 ∧ i = 2 then [e.name, e.tail] else []
theorem scope_bound_spec (e : Ex) (i : Nat) : PS F_scope_bound [.agg e.c, I i] (.sl .no 1 (strs (bndE e i))) := by
  refine pspec' mixed w_scope_bound (by simp) (by simp [V.bd, strs_bd]) fun n => ?_
  unfold c_scope_bound r_scope_bound
  (repeat' (first | simp -implicitDefEqProofs (disch := omega) only [go_sem, ↓reduceIte, Ex.c_eq e] | (((first | with_reducible apply cnd_c | with_reducible apply grd_c | with_reducible apply pck_c) <;> intro wh <;> (try rewrite [wh]) <;> try simp only [wdw] at wh) <;> (try (revert wh; intro _)) <;> try (exfalso; omega)) | refine andi ?_ | fail))
  all_goals (simp [bndE, strs, *]; try first | omega | (intros; omega) | (split <;> first | rfl | omega))
def tellF (s : Int × Int) (w a : Int) : Int × Int := if s.1 = 0 ∨ a < s.2 then (w, a) else s
def fltO (s : Int × Int) : AObj := .cells [I s.1, I s.2]
theorem scope_tell (s : Int × Int) (w a : Int) (n fo : Nat) (h : fo < n) : CS F_scope_Check_1 [I w, I a, .ptr fo 0] [(fo, fltO s)] n (.tup []) [(fo, fltO (tellF s w a))] n := by
  refine lspec w_scope_Check_1 (by simp) (by simp [V.bd, bds]) (by simp [h, AObj.bd, fltO, bds, V.bd]) ?_
  unfold c_scope_Check_1 r_scope_Check_1
  (repeat' (first | simp -implicitDefEqProofs (disch := omega) only [go_sem, ↓reduceIte, fltO] | (((first | with_reducible apply cnd_c | with_reducible apply grd_c | with_reducible apply pck_c) <;> intro wh <;> (try rewrite [wh]) <;> try simp only [wdw] at wh) <;> (try (revert wh; intro _)) <;> try (exfalso; omega)) | refine andi ?_ | fail))
  all_goals simp [tellF, *]
  rw [if_neg (by omega)]
  exact ⟨rfl, rfl⟩
/-- What stays as it is while an expression is walked. -/
structure ScC where
  bp : Nat
  fo : Nat
  tp : Nat
  pm : Nat
  pp : Nat
  p : List Fn
  kp : List ByteArray
  mp : ByteArray → Int
structure ScOk (C : ScC) (im n : Nat) : Prop where
  h1 : C.bp < C.fo
  h2 : C.fo < C.tp
  h3 : C.tp < C.pm
  h4 : C.pm < C.pp
  h5 : C.pp < im
  h6 : im < n
  hp : C.p.length ≤ 100000
  hm : ∀ k, C.mp k = 0 ∨ (1 ≤ C.mp k ∧ C.mp k ≤ C.p.length)
def scL (C : ScC) (im : Nat) (ks : List ByteArray) (m : ByteArray → Int) (s : Int × Int) : List (Nat × AObj) :=
  [(im, .map ks m), (C.fo, fltO s), (C.pp, .cells [.map C.pm]), (C.pm, .map C.kp C.mp), (C.tp, .cells [.fn F_scope_Check_1 [.ptr C.fo 0]]), (C.bp, .cells [.sl .no 11 (C.p.map Fn.c)])]
def arF (p : List Fn) (v : Int) : Nat := match p[(v - 1).toNat]? with
  | some f => f.params.length
  | none => 0
def visF (C : ScC) (m : ByteArray → Int) (e : Ex) (s : Int × Int) : Int × Int :=
  if e.op = 6 ∧ m e.name = 0 then tellF s 31 e.at_
  else if e.op = 7 ∧ C.mp e.name = 0 then tellF s 32 e.at_
  else if e.op = 7 ∧ arF C.p (C.mp e.name) ≠ e.args.length then tellF s 33 e.at_
  else s
theorem scL_bd {C : ScC} {im n : Nat} (h : ScOk C im n) (ks : List ByteArray) (m : ByteArray → Int) (s : Int × Int) : ∀ p ∈ scL C im ks m s, p.1 < n ∧ p.2.bd n = true := by
  obtain ⟨h1, h2, h3, h4, h5, h6, _, _⟩ := h
  have := bdss_map (Fn.bd n) C.p
  have h7 : C.pm < n := by omega
  have h8 : C.fo < n := by omega
  simp [scL, AObj.bd, bds, V.bd, fltO, this, h7, h8]
  omega
set_option maxHeartbeats 1000000 in
theorem scope_visit {C : ScC} {im n : Nat} (h : ScOk C im n) (e : Ex) (ks : List ByteArray) (m : ByteArray → Int) (s : Int × Int) (hl : e.args.length ≤ 1000000) :
    CS F_scope_Check_2 [.agg e.c, .map im, .ptr C.pp 0, .ptr C.tp 0, .ptr C.bp 0] (scL C im ks m s) n (.tup []) (scL C im ks m (visF C m e s)) n := by
  refine lspec w_scope_Check_2 (by simp) (by simp [V.bd, bds]) (scL_bd h _ _ _) ?_
  obtain ⟨h1, h2, h3, h4, h5, h6, hp, hm⟩ := h
  obtain ⟨bp, fo, tp, pm, pp, p, kp, mp⟩ := C
  unfold c_scope_Check_2 r_scope_Check_2
  simp only at h1 h2 h3 h4 h5 h6 hp hm ⊢
  have hme := hm e.name
  have hT := fun w a => scope_tell s w a n fo (by omega)
  have hC : visF ⟨bp, fo, tp, pm, pp, p, kp, mp⟩ m e s = if e.op = 6 ∧ m e.name = 0 then tellF s 31 e.at_ else if e.op = 7 ∧ mp e.name = 0 then tellF s 32 e.at_ else if e.op = 7 ∧ arF p (mp e.name) ≠ e.args.length then tellF s 33 e.at_ else s := rfl
  rw [hC]
  by_cases h6' : e.op = 6
  · have h7' : ¬ e.op = 7 := by omega
    simp only [h6', h7', true_and, false_and, if_false]
    by_cases hz : m e.name = 0
    · have hz' : (m e.name = 0) = True := eq_true hz
      rw [if_pos hz]
      (repeat' (first | simp -implicitDefEqProofs (disch := omega) only [go_sem, ↓reduceIte, Ex.c_eq e, scL, h6', h7', hz'] | (((first | with_reducible apply cnd_c | with_reducible apply grd_c | with_reducible apply pck_c) <;> intro wh <;> (try rewrite [wh]) <;> try simp only [wdw] at wh) <;> (try (revert wh; intro _)) <;> try (exfalso; omega)) | refine andi ?_ | fail))
      refine ecall_mc (hT 31 e.at_) ?_ (by omega) ?_
      · simp (disch := omega) only [upd_same', upd_ne']
      · (repeat' (first | simp -implicitDefEqProofs (disch := omega) only [go_sem, ↓reduceIte] | (((first | with_reducible apply cnd_c | with_reducible apply grd_c | with_reducible apply pck_c) <;> intro wh <;> (try rewrite [wh]) <;> try simp only [wdw] at wh) <;> (try (revert wh; intro _)) <;> try (exfalso; omega)) | refine andi ?_ | fail))
    · have hz' : (m e.name = 0) = False := eq_false hz
      rw [if_neg hz]
      (repeat' (first | simp -implicitDefEqProofs (disch := omega) only [go_sem, ↓reduceIte, Ex.c_eq e, scL, h6', h7', hz'] | (((first | with_reducible apply cnd_c | with_reducible apply grd_c | with_reducible apply pck_c) <;> intro wh <;> (try rewrite [wh]) <;> try simp only [wdw] at wh) <;> (try (revert wh; intro _)) <;> try (exfalso; omega)) | refine andi ?_ | fail))
      simp
  · simp only [h6', false_and, if_false]
    by_cases h7' : e.op = 7
    · simp only [h7', true_and]
      by_cases hz : mp e.name = 0
      · have hz' : (mp e.name = 0) = True := eq_true hz
        rw [if_pos hz]
        (repeat' (first | simp -implicitDefEqProofs (disch := omega) only [go_sem, ↓reduceIte, Ex.c_eq e, scL, h6', h7', hz'] | (((first | with_reducible apply cnd_c | with_reducible apply grd_c | with_reducible apply pck_c) <;> intro wh <;> (try rewrite [wh]) <;> try simp only [wdw] at wh) <;> (try (revert wh; intro _)) <;> try (exfalso; omega)) | refine andi ?_ | fail))
        refine ecall_mc (hT 32 e.at_) ?_ (by omega) ?_
        · simp (disch := omega) only [upd_same', upd_ne']
        · (repeat' (first | simp -implicitDefEqProofs (disch := omega) only [go_sem, ↓reduceIte] | (((first | with_reducible apply cnd_c | with_reducible apply grd_c | with_reducible apply pck_c) <;> intro wh <;> (try rewrite [wh]) <;> try simp only [wdw] at wh) <;> (try (revert wh; intro _)) <;> try (exfalso; omega)) | refine andi ?_ | fail))
      · have hz' : (mp e.name = 0) = False := eq_false hz
        have hlt : (mp e.name - 1).toNat < p.length := by omega
        have hg := getq hlt
        have ha : arF p (mp e.name) = (p[(mp e.name - 1).toNat]).params.length := by simp only [arF, hg]
        rw [if_neg hz, ha]
        by_cases hn : (p[(mp e.name - 1).toNat]).params.length = e.args.length
        · rw [if_neg (by omega)]
          have hn' : (((p[(mp e.name - 1).toNat]).params.length : Int) = (e.args.length : Int)) = True := eq_true (by omega)
          (repeat' (first | simp -implicitDefEqProofs (disch := omega) only [go_sem, ↓reduceIte, Ex.c_eq e, scL, h6', h7', hz', hg, Fn.c, hn'] | (((first | with_reducible apply cnd_c | with_reducible apply grd_c | with_reducible apply pck_c) <;> intro wh <;> (try rewrite [wh]) <;> try simp only [wdw] at wh) <;> (try (revert wh; intro _)) <;> try (exfalso; omega)) | refine andi ?_ | fail))
          omega
        · rw [if_pos hn]
          have hn' : (((p[(mp e.name - 1).toNat]).params.length : Int) = (e.args.length : Int)) = False := eq_false (by omega)
          (repeat' (first | simp -implicitDefEqProofs (disch := omega) only [go_sem, ↓reduceIte, Ex.c_eq e, scL, h6', h7', hz', hg, Fn.c, hn'] | (((first | with_reducible apply cnd_c | with_reducible apply grd_c | with_reducible apply pck_c) <;> intro wh <;> (try rewrite [wh]) <;> try simp only [wdw] at wh) <;> (try (revert wh; intro _)) <;> try (exfalso; omega)) | refine andi ?_ | fail))
          refine ecall_mc (hT 33 e.at_) ?_ (by omega) ?_
          · simp (disch := omega) only [upd_same', upd_ne']
          · (repeat' (first | simp -implicitDefEqProofs (disch := omega) only [go_sem, ↓reduceIte] | (((first | with_reducible apply cnd_c | with_reducible apply grd_c | with_reducible apply pck_c) <;> intro wh <;> (try rewrite [wh]) <;> try simp only [wdw] at wh) <;> (try (revert wh; intro _)) <;> try (exfalso; omega)) | refine andi ?_ | fail))
    · simp only [h7', false_and, if_false]
      (repeat' (first | simp -implicitDefEqProofs (disch := omega) only [go_sem, ↓reduceIte, Ex.c_eq e, scL, h6', h7'] | (((first | with_reducible apply cnd_c | with_reducible apply grd_c | with_reducible apply pck_c) <;> intro wh <;> (try rewrite [wh]) <;> try simp only [wdw] at wh) <;> (try (revert wh; intro _)) <;> try (exfalso; omega)) | refine andi ?_ | fail))
      omega
end Go.Proofs.Fathom
set_option linter.unusedVariables false
set_option linter.unusedSimpArgs false
namespace Go.Proofs.Fathom
open Go Go.Proofs
attribute [local irreducible] PSpec CSpec
def insK (ks : List ByteArray) (k : ByteArray) : List ByteArray := if ks.any (fun x => decide (x = k)) then ks else ks ++ [k]
def insKs (ks l : List ByteArray) : List ByteArray := l.foldl insK ks
def incM (m : ByteArray → Int) (k : ByteArray) : ByteArray → Int := fun x => if x = k then m k + 1 else m x
def incMs (m : ByteArray → Int) (l : List ByteArray) : ByteArray → Int := l.foldl incM m
def decM (m : ByteArray → Int) (k : ByteArray) : ByteArray → Int := fun x => if x = k then m k - 1 else m x
def decMs (m : ByteArray → Int) (l : List ByteArray) : ByteArray → Int := l.foldl decM m
def bnd (o : Int) (nm t : ByteArray) (i : Nat) : List ByteArray := if o = 21 ∨ (o = 22 ∧ i = 1) then [nm] else if o = 20 ∧ i = 2 then [nm, t] else []
theorem bnd_len (o : Int) (nm t : ByteArray) (i : Nat) : (bnd o nm t i).length ≤ 2 := by
  unfold bnd
  split
  · simp
  · split <;> simp
theorem bnd_restore (m : ByteArray → Int) (o : Int) (nm t : ByteArray) (i : Nat) : decMs (incMs m (bnd o nm t i)) (bnd o nm t i) = m := by
  unfold bnd
  split
  · funext x
    by_cases h : x = nm
    · subst h; simp [decMs, incMs, decM, incM]
    · simp [decMs, incMs, decM, incM, h]
  · split
    · funext x
      by_cases h2 : nm = t
      · subst h2
        by_cases h : x = nm
        · subst h; simp [decMs, incMs, decM, incM]
        · simp [decMs, incMs, decM, incM, h]
      · have h2' : ¬ t = nm := fun h => h2 h.symm
        by_cases h : x = nm
        · subst h
          simp [decMs, incMs, decM, incM, h2, h2']
        · by_cases h3 : x = t
          · subst h3
            simp [decMs, incMs, decM, incM, h, h2]
          · simp [decMs, incMs, decM, incM, h, h3]
    · rfl
theorem incMs_bd : ∀ (l : List ByteArray) (m : ByteArray → Int) (x : ByteArray), m x ≤ incMs m l x ∧ incMs m l x ≤ m x + l.length
  | [], m, x => by simp [incMs]
  | a :: l, m, x => by
    have ih := incMs_bd l (incM m a) x
    have e : incMs m (a :: l) x = incMs (incM m a) l x := rfl
    have h1 : m x ≤ incM m a x ∧ incM m a x ≤ m x + 1 := by
      unfold incM
      split
      · rename_i h; subst h; omega
      · omega
    rw [e, List.length_cons]
    omega
theorem decMs_bd : ∀ (l : List ByteArray) (m : ByteArray → Int) (x : ByteArray), decMs m l x ≤ m x ∧ m x ≤ decMs m l x + l.length
  | [], m, x => by simp [decMs]
  | a :: l, m, x => by
    have ih := decMs_bd l (decM m a) x
    have e : decMs m (a :: l) x = decMs (decM m a) l x := rfl
    have h1 : decM m a x ≤ m x ∧ m x ≤ decM m a x + 1 := by
      unfold decM
      split
      · rename_i h; subst h; omega
      · omega
    rw [e, List.length_cons]
    omega
theorem insKs_snoc (ks l : List ByteArray) (k : ByteArray) : insKs ks (l ++ [k]) = if (insKs ks l).any (fun x => decide (x = k)) then insKs ks l else insKs ks l ++ [k] := by
  unfold insKs; rw [List.foldl_append]; rfl
theorem incMs_snoc (m : ByteArray → Int) (l : List ByteArray) (k : ByteArray) : incMs m (l ++ [k]) = fun x => if x = k then incMs m l k + 1 else incMs m l x := by
  unfold incMs; rw [List.foldl_append]; rfl
theorem decMs_snoc (m : ByteArray → Int) (l : List ByteArray) (k : ByteArray) : decMs m (l ++ [k]) = fun x => if x = k then decMs m l k - 1 else decMs m l x := by
  unfold decMs; rw [List.foldl_append]; rfl
mutual
def walkF (C : ScC) : (e : Ex) → (ByteArray → Int) → List ByteArray × (Int × Int) → List ByteArray × (Int × Int)
  | .mk o nm t y r q l a, m, st => walkFs C l o nm t 0 m (st.1, visF C m (.mk o nm t y r q l a) st.2)
  termination_by structural e => e
def walkFs (C : ScC) : (l : List Ex) → Int → ByteArray → ByteArray → Nat → (ByteArray → Int) → List ByteArray × (Int × Int) → List ByteArray × (Int × Int)
  | [], _, _, _, _, _, st => st
  | e :: l, o, nm, t, i, m, st =>
    let r := walkF C e (incMs m (bnd o nm t i)) (insKs st.1 (bnd o nm t i), st.2)
    walkFs C l o nm t (i + 1) m (insKs r.1 (bnd o nm t i), r.2)
  termination_by structural l => l
end
theorem walkF_eq (C : ScC) (e : Ex) (m : ByteArray → Int) (st : List ByteArray × (Int × Int)) : walkF C e m st = walkFs C e.args e.op e.name e.tail 0 m (st.1, visF C m e st.2) := by
  cases e
  rw [walkF]
  rfl
theorem Ex.sz_eq (e : Ex) : e.sz = 1 + Ex.szs e.args := by cases e; rfl
theorem Ex.szs_get : ∀ (l : List Ex) (i : Nat) (h : i < l.length), (l[i]).sz ≤ Ex.szs l
  | a :: l, 0, h => by simp [Ex.szs]
  | a :: l, i + 1, h => by
    have := Ex.szs_get l i (by simpa using h)
    simp only [Ex.szs, List.getElem_cons_succ]
    omega
theorem Ex.szs_len : ∀ (l : List Ex), l.length ≤ Ex.szs l
  | [] => by simp
  | a :: l => by
    have := Ex.szs_len l
    have := Ex.sz_eq a
    simp only [Ex.szs, List.length_cons]
    omega
theorem Ex.c_d5 (e : Ex) : List.drop 5 e.c = [.sl .no 7 (Ex.cs e.args), .int .i64 e.at_] := by rw [Ex.c_eq]; rfl
theorem upd_eta {ob : Obs} {i : Nat} {o : AObj} (h : ob i = some o) : upd ob i (some o) = ob := by
  funext j
  unfold upd
  split
  · rename_i e; subst e; exact h.symm
  · rfl
set_option maxHeartbeats 2000000 in
theorem scope_walk_spec (C : ScC) (im n : Nat) (h : ScOk C im n) : ∀ (N : Nat) (e : Ex), e.sz ≤ N → ∀ (n' : Nat), n ≤ n' → ∀ (ks : List ByteArray) (m : ByteArray → Int) (s : Int × Int), (∀ k, 0 ≤ m k ∧ m k + 2 * e.sz ≤ 1000000) →
    CS F_scope_walk [.agg e.c, .map im, .fn F_scope_Check_2 [.ptr C.pp 0, .ptr C.tp 0, .ptr C.bp 0]] (scL C im ks m s) n' (.tup []) (scL C im (walkF C e m (ks, s)).1 m (walkF C e m (ks, s)).2) n'
  | 0, e => fun hN => by have := Ex.sz_eq e; omega
  | N + 1, e => fun hN n' hn ks m s hm => by
    have h' : ScOk C im n' := ⟨h.h1, h.h2, h.h3, h.h4, h.h5, by have := h.h6; omega, h.hp, h.hm⟩
    have hsz := Ex.sz_eq e
    have hlen := Ex.szs_len e.args
    have hm0 := hm ⟨#[]⟩
    have hv := scope_visit h' e ks m s (by omega)
    refine lspec w_scope_walk (by simp) (by simp [V.bd, bds]) (scL_bd h' _ _ _) ?_
    unfold c_scope_walk r_scope_walk
    obtain ⟨h1, h2, h3, h4, h5, h6, hp, hmp⟩ := h'
    rw [walkF_eq]
    simp only
    generalize hR : walkFs C e.args e.op e.name e.tail 0 m (ks, visF C m e s) = R
    (repeat' (first | simp -implicitDefEqProofs (disch := omega) only [go_sem, ↓reduceIte] | (((first | with_reducible apply cnd_c | with_reducible apply grd_c | with_reducible apply pck_c) <;> intro wh <;> (try rewrite [wh]) <;> try simp only [wdw] at wh) <;> (try (revert wh; intro _)) <;> try (exfalso; omega)) | refine andi ?_ | fail))
    refine ecall_l hv rfl (by simp (disch := omega) only [scL, List.forall_mem_cons, List.not_mem_nil, false_imp_iff, implies_true, and_true, upd_same', upd_ne', ov_cons, ov_nil]) (by simp only [scL, List.forall_mem_cons, List.not_mem_nil, false_imp_iff, implies_true, and_true]; omega) ?_
    (repeat' (first | simp -implicitDefEqProofs (disch := omega) only [go_sem, ↓reduceIte, Ex.c_d5] | (((first | with_reducible apply cnd_c | with_reducible apply grd_c | with_reducible apply pck_c) <;> intro wh <;> (try rewrite [wh]) <;> try simp only [wdw] at wh) <;> (try (revert wh; intro _)) <;> try (exfalso; omega)) | refine andi ?_ | fail))
    refine loop_o (fun t : Nat × (List ByteArray × (Int × Int)) × Nat => ofL [(1, .map im), (2, .fn F_scope_Check_2 [.ptr C.pp 0, .ptr C.tp 0, .ptr C.bp 0]), (3, .cref e.c), (18, .sl .no 7 (Ex.cs e.args)), (19, I e.args.length), (20, I t.1)]) (fun t => t.2.2) (fun t => e.args.length - t.1)
      (fun t ob => t.1 ≤ e.args.length ∧ n' ≤ t.2.2 ∧ walkFs C (e.args.drop t.1) e.op e.name e.tail t.1 m t.2.1 = R ∧ (∀ p ∈ scL C im t.2.1.1 m t.2.1.2, ob p.1 = some p.2))
      (0, (ks, visF C m e s), n') rfl rfl ⟨Nat.zero_le _, Nat.le_refl _, hR, ?_⟩ fun t ob ht => ?_
    · simp (disch := omega) only [scL, List.forall_mem_cons, List.not_mem_nil, false_imp_iff, implies_true, and_true, upd_same', upd_ne', ov_cons, ov_nil, true_and]
    obtain ⟨i, ⟨ks1, s1⟩, y⟩ := t
    simp only [scL, List.forall_mem_cons, List.not_mem_nil, false_imp_iff, implies_true, and_true] at ht ⊢
    obtain ⟨hi, hy, hfin, o1, o2, o3, o4, o5, o6⟩ := ht
    (simp -implicitDefEqProofs (disch := omega) only [go_sem, ↓reduceIte])
    ((first | with_reducible apply cnd_c | with_reducible apply grd_c | with_reducible apply pck_c) <;> intro hlt <;> (try rewrite [hlt]) <;> try simp only [wdw] at hlt)
    · have hie : i = e.args.length := by omega
      rw [List.drop_eq_nil_of_le (by omega)] at hfin
      simp only [walkFs] at hfin
      subst hfin
      (repeat' (first | simp -implicitDefEqProofs (disch := omega) only [go_sem, ↓reduceIte, o1, o2, o3, o4, o5, o6] | (((first | with_reducible apply cnd_c | with_reducible apply grd_c | with_reducible apply pck_c) <;> intro wh <;> (try rewrite [wh]) <;> try simp only [wdw] at wh) <;> (try (revert wh; intro _)) <;> try (exfalso; omega)) | refine andi ?_ | fail))
      omega
    · have hlt : i < e.args.length := by omega
      rw [List.drop_eq_getElem_cons hlt] at hfin
      simp only [walkFs] at hfin
      have hxs := Ex.szs_get e.args i hlt
      have hgx := getq hlt
      generalize e.args[i] = x at *
      have hbs : bndE e i = bnd e.op e.name e.tail i := rfl
      have hsb := scope_bound_spec e i
      rw [hbs] at hsb
      have hnl := bnd_len e.op e.name e.tail i
      have hres := bnd_restore m e.op e.name e.tail i
      generalize bnd e.op e.name e.tail i = nm at *
      have hmk := fun k => hm k
      (repeat' (first | simp -implicitDefEqProofs (disch := omega) only [go_sem, ↓reduceIte, hgx] | (((first | with_reducible apply cnd_c | with_reducible apply grd_c | with_reducible apply pck_c) <;> intro wh <;> (try rewrite [wh]) <;> try simp only [wdw] at wh) <;> (try (revert wh; intro _)) <;> try (exfalso; omega)) | refine andi ?_ | ((with_reducible refine callM_id ?_); refine callM_i hsb ?_) | fail))
      refine loop_o (fun j : Nat => ofL [(1, .map im), (2, .fn F_scope_Check_2 [.ptr C.pp 0, .ptr C.tp 0, .ptr C.bp 0]), (3, .cref e.c), (7, .ptr y 0), (8, .sl .no 1 (strs nm)), (18, .sl .no 7 (Ex.cs e.args)), (19, I e.args.length), (20, I i), (28, .sl .no 1 (strs nm)), (29, I nm.length), (30, I j)]) (fun _ => y + 1) (fun j => nm.length - j)
        (fun j ob => j ≤ nm.length ∧ ob im = some (.map (insKs ks1 (nm.take j)) (incMs m (nm.take j))) ∧ ob C.fo = some (fltO s1) ∧ ob C.pp = some (.cells [.map C.pm]) ∧ ob C.pm = some (.map C.kp C.mp) ∧ ob C.tp = some (.cells [.fn F_scope_Check_1 [.ptr C.fo 0]]) ∧ ob C.bp = some (.cells [.sl .no 11 (C.p.map Fn.c)]) ∧ ob y = some (.cells x.c))
        0 rfl rfl ⟨Nat.zero_le _, ?_, ?_, ?_, ?_, ?_, ?_, ?_⟩ fun j ob hj => ?_
      · simp (disch := omega) only [upd_same', upd_ne', o1]; rfl
      · simp (disch := omega) only [upd_same', upd_ne', o2]
      · simp (disch := omega) only [upd_same', upd_ne', o3]
      · simp (disch := omega) only [upd_same', upd_ne', o4]
      · simp (disch := omega) only [upd_same', upd_ne', o5]
      · simp (disch := omega) only [upd_same', upd_ne', o6]
      · simp (disch := omega) only [upd_same', upd_ne']
      obtain ⟨hj, o1, o2, o3, o4, o5, o6, o7⟩ := hj
      (simp -implicitDefEqProofs (disch := omega) only [go_sem, ↓reduceIte])
      ((first | with_reducible apply cnd_c | with_reducible apply grd_c | with_reducible apply pck_c) <;> intro hjl <;> (try rewrite [hjl]) <;> try simp only [wdw] at hjl)
      · have hjn : j = nm.length := by omega
        subst hjn
        rw [List.take_of_length_le (Nat.le_refl _)] at o1
        have hrec := scope_walk_spec C im n h N x (by omega) (y + 1) (by omega) (insKs ks1 nm) (incMs m nm) s1 (fun k => by
          have := incMs_bd nm m k
          have := hm k
          omega)
        (repeat' (first | simp -implicitDefEqProofs (disch := omega) only [go_sem, ↓reduceIte, o7] | (((first | with_reducible apply cnd_c | with_reducible apply grd_c | with_reducible apply pck_c) <;> intro wh <;> (try rewrite [wh]) <;> try simp only [wdw] at wh) <;> (try (revert wh; intro _)) <;> try (exfalso; omega)) | refine andi ?_ | fail))
        refine ecall_l hrec rfl (by simp (disch := omega) only [scL, List.forall_mem_cons, List.not_mem_nil, false_imp_iff, implies_true, and_true, o1, o2, o3, o4, o5, o6]) (by simp only [scL, List.forall_mem_cons, List.not_mem_nil, false_imp_iff, implies_true, and_true]; omega) ?_
        generalize walkF C x (incMs m nm) (insKs ks1 nm, s1) = r at *
        (repeat' (first | simp -implicitDefEqProofs (disch := omega) only [go_sem, ↓reduceIte] | (((first | with_reducible apply cnd_c | with_reducible apply grd_c | with_reducible apply pck_c) <;> intro wh <;> (try rewrite [wh]) <;> try simp only [wdw] at wh) <;> (try (revert wh; intro _)) <;> try (exfalso; omega)) | refine andi ?_ | fail))
        refine loop_o (fun j : Nat => ofL [(1, .map im), (2, .fn F_scope_Check_2 [.ptr C.pp 0, .ptr C.tp 0, .ptr C.bp 0]), (3, .cref e.c), (18, .sl .no 7 (Ex.cs e.args)), (19, I e.args.length), (20, I i), (43, .sl .no 1 (strs nm)), (44, I nm.length), (45, I j)]) (fun _ => y + 1) (fun j => nm.length - j)
          (fun j ob => j ≤ nm.length ∧ ob im = some (.map (insKs r.1 (nm.take j)) (decMs (incMs m nm) (nm.take j))) ∧ ob C.fo = some (fltO r.2) ∧ ob C.pp = some (.cells [.map C.pm]) ∧ ob C.pm = some (.map C.kp C.mp) ∧ ob C.tp = some (.cells [.fn F_scope_Check_1 [.ptr C.fo 0]]) ∧ ob C.bp = some (.cells [.sl .no 11 (C.p.map Fn.c)]))
          0 rfl rfl ⟨Nat.zero_le _, ?_, ?_, ?_, ?_, ?_, ?_⟩ fun j ob hj => ?_
        · simp (disch := omega) only [scL, ov_cons, ov_nil, upd_same', upd_ne']; rfl
        · simp (disch := omega) only [scL, ov_cons, ov_nil, upd_same', upd_ne']
        · simp (disch := omega) only [scL, ov_cons, ov_nil, upd_same', upd_ne']
        · simp (disch := omega) only [scL, ov_cons, ov_nil, upd_same', upd_ne']
        · simp (disch := omega) only [scL, ov_cons, ov_nil, upd_same', upd_ne']
        · simp (disch := omega) only [scL, ov_cons, ov_nil, upd_same', upd_ne']
        obtain ⟨hj, o1, o2, o3, o4, o5, o6⟩ := hj
        (simp -implicitDefEqProofs (disch := omega) only [go_sem, ↓reduceIte])
        ((first | with_reducible apply cnd_c | with_reducible apply grd_c | with_reducible apply pck_c) <;> intro hjl <;> (try rewrite [hjl]) <;> try simp only [wdw] at hjl)
        · have hjn : j = nm.length := by omega
          subst hjn
          rw [List.take_of_length_le (Nat.le_refl _), hres] at o1
          (repeat' (first | simp -implicitDefEqProofs (disch := omega) only [go_sem, ↓reduceIte] | (((first | with_reducible apply cnd_c | with_reducible apply grd_c | with_reducible apply pck_c) <;> intro wh <;> (try rewrite [wh]) <;> try simp only [wdw] at wh) <;> (try (revert wh; intro _)) <;> try (exfalso; omega)) | refine andi ?_ | fail))
          exact ⟨(i + 1, (insKs r.1 nm, r.2), y + 1), ⟨by simp only; omega, by simp only; omega, hfin, o1, o2, o3, o4, o5, o6⟩, by simp only; omega, rfl, rfl⟩
        · have hjl : j < nm.length := by omega
          have hb1 := incMs_bd nm m nm[j]
          have hb2 := decMs_bd (nm.take j) (incMs m nm) nm[j]
          have hb3 := hm nm[j]
          have hb4 : (nm.take j).length ≤ 2 := by rw [List.length_take]; omega
          have hts := take_snoc hjl
          have e1 := insKs_snoc r.1 (nm.take j) nm[j]
          have e2 := decMs_snoc (incMs m nm) (nm.take j) nm[j]
          rw [hts] at e1 e2
          (repeat' (first | simp -implicitDefEqProofs (disch := omega) only [go_sem, ↓reduceIte, getq hjl, o1] | (((first | with_reducible apply cnd_c | with_reducible apply grd_c | with_reducible apply pck_c) <;> intro wh <;> (try rewrite [wh]) <;> try simp only [wdw] at wh) <;> (try (revert wh; intro _)) <;> try (exfalso; omega)) | refine andi ?_ | fail))
          exact ⟨j + 1, ⟨by omega, by rw [e1, e2], by simp (disch := omega) only [upd_same', upd_ne', o2], by simp (disch := omega) only [upd_same', upd_ne', o3], by simp (disch := omega) only [upd_same', upd_ne', o4], by simp (disch := omega) only [upd_same', upd_ne', o5], by simp (disch := omega) only [upd_same', upd_ne', o6]⟩, by omega, rfl⟩
      · have hjl : j < nm.length := by omega
        have hb1 := incMs_bd (nm.take j) m nm[j]
        have hb3 := hm nm[j]
        have hb4 : (nm.take j).length ≤ 2 := by rw [List.length_take]; omega
        have hts := take_snoc hjl
        have e1 := insKs_snoc ks1 (nm.take j) nm[j]
        have e2 := incMs_snoc m (nm.take j) nm[j]
        rw [hts] at e1 e2
        (repeat' (first | simp -implicitDefEqProofs (disch := omega) only [go_sem, ↓reduceIte, getq hjl, o1] | (((first | with_reducible apply cnd_c | with_reducible apply grd_c | with_reducible apply pck_c) <;> intro wh <;> (try rewrite [wh]) <;> try simp only [wdw] at wh) <;> (try (revert wh; intro _)) <;> try (exfalso; omega)) | refine andi ?_ | fail))
        exact ⟨j + 1, ⟨by omega, by rw [e1, e2], by simp (disch := omega) only [upd_same', upd_ne', o2], by simp (disch := omega) only [upd_same', upd_ne', o3], by simp (disch := omega) only [upd_same', upd_ne', o4], by simp (disch := omega) only [upd_same', upd_ne', o5], by simp (disch := omega) only [upd_same', upd_ne', o6], by simp (disch := omega) only [upd_same', upd_ne', o7]⟩, by omega, rfl⟩
end Go.Proofs.Fathom
