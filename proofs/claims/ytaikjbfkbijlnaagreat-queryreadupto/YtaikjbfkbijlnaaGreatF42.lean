/- A part of the proof of 'Rows.QueryReadUptoSaid': for every text and every seeds (of bulk at most 1048576 together) fathomlaw19.QueryRead returns true and its arguments read afterwards as before. -/
import Derived.Test.YtaikjbfkbijlnaaGreatF40
import Derived.Test.YtaikjbfkbijlnaaGreatF41
set_option linter.unusedVariables false
set_option linter.unusedSimpArgs false
namespace Go.Proofs.Fathom
open Go Go.Proofs
attribute [local irreducible] PSpec CSpec
/-! ### types: the checker -/
theorem ecall_e {P : Program} {f : FuncId} {caps args : List V} {sl : Nat → V} {ob : Obs} {nx nt bs : Nat} {K : St → V → Prop} {L : List (Nat × AObj)} {Φ : V → List (Nat × AObj) → Nat → Prop} (h : CSpecE P f (args ++ caps) L nx Φ) (hL : ∀ p ∈ L, ob p.1 = some p.2)
    (hk : ∀ r L' n', Φ r L' n' → (∀ p ∈ L, ∃ o, (p.1, o) ∈ L') ∧ (∀ p ∈ L', p.1 < n' ∧ ((∃ o, (p.1, o) ∈ L) ∨ nx ≤ p.1)) ∧ nx ≤ n' ∧ K ⟨sl, Obs.ov ob L', n', nt, bs⟩ r) : ecallM P (.fn f caps) args ⟨sl, ob, nx, nt, bs⟩ K :=
  ⟨L, Φ, h, hL, hk⟩
/-- What is told of a wrong place. -/
structure Wr where
  f : FuncId
  σ : Type
  ob : σ → AObj
  step : σ → Int → σ
  bd : ∀ s n, (ob s).bd n = true
  ok : ∀ (s : σ) (a : Int) (n fo : Nat), fo < n → CS f [I a, .ptr fo 0] [(fo, ob s)] n (.tup []) [(fo, ob (step s a))] n
structure TyC where
  W : Wr
  fo : Nat
  hm : Nat
  c : Nat
  p : List Fn
  kh : List ByteArray
  mh : ByteArray → Int
structure TyOk (C : TyC) : Prop where
  h1 : C.fo < C.hm
  h2 : C.hm < C.c
  hp : C.p.length ≤ 100000
  hh : ∀ k, C.mh k = 0 ∨ (1 ≤ C.mh k ∧ C.mh k ≤ C.p.length)
def tyO (C : TyC) (j : Nat) (env : List Pm) : AObj := .cells [.map C.hm, .sl .no 11 (C.p.map Fn.c), .row j env.length 3 0 env.length, .fn C.W.f [.ptr C.fo 0]]
def tyL (C : TyC) (j : Nat) (env : List Pm) (s : C.W.σ) : List (Nat × AObj) := [(C.c, tyO C j env), (j, .row 3 (env.map Pm.c)), (C.hm, .map C.kh C.mh), (C.fo, C.W.ob s)]
/-- The checker as it stands: j0 is where its row began. -/
structure TySt (C : TyC) (n j0 : Nat) (env : List Pm) (s : C.W.σ) (ob : Obs) (nx j : Nat) : Prop where
  mv : j = j0 ∨ (n ≤ j ∧ ∃ q, ob j0 = some (.tip 3 q))
  cj : C.c < j
  j0c : C.c < j0
  jn : j < nx
  nn : n ≤ nx
  j0n : j0 < n
  oc : ob C.c = some (tyO C j env)
  oj : ob j = some (.row 3 (env.map Pm.c))
  oh : ob C.hm = some (.map C.kh C.mh)
  of_ : ob C.fo = some (C.W.ob s)
def TySpec (C : TyC) (X : List (Nat × AObj)) (f : FuncId) (args : List V) (nx j : Nat) (env env' : List Pm) (s s' : C.W.σ) (r : V) : Prop :=
  CSpecE Tryz.prog f args (tyL C j env s ++ X) nx fun v L' n' => ∃ j' o, v = r ∧ L' = tyL C j' env' s' ++ X ++ [(j, o)] ∧ (j' = j ∨ (nx ≤ j' ∧ ∃ q, o = .tip 3 q)) ∧ j' < n' ∧ nx ≤ n'
theorem ov_app {ob : Obs} : ∀ {A B : List (Nat × AObj)}, Obs.ov ob (A ++ B) = Obs.ov (Obs.ov ob B) A
  | [], B => rfl
  | (i, o) :: A, B => by rw [List.cons_append, ov_cons, ov_cons, ov_app]
theorem ov_out {ob : Obs} {A : List (Nat × AObj)} {i : Nat} (h : ∀ p ∈ A, p.1 ≠ i) : Obs.ov ob A i = ob i := by
  induction A with
  | nil => rfl
  | cons a A ih =>
    obtain ⟨j, o⟩ := a
    rw [ov_cons, upd_ne _ _ (fun e => h (j, o) (by simp) e.symm)]
    exact ih fun p hp => h p (by simp [hp])
/-- A call that has the checker and, it may be, objects that stay. -/
theorem ty_call {C : TyC} (hC : TyOk C) {X : List (Nat × AObj)} {f : FuncId} {caps args : List V} {sl : Nat → V} {ob : Obs} {n nx nt bs j0 j : Nat} {env env' : List Pm} {s s' : C.W.σ} {r : V} {K : St → V → Prop} (st : TySt C n j0 env s ob nx j)
    (h : TySpec C X f (args ++ caps) nx j env env' s s' r) (hX : ∀ p ∈ X, ob p.1 = some p.2 ∧ p.1 < nx ∧ p.1 ≠ C.c ∧ p.1 ≠ C.hm ∧ p.1 ≠ C.fo ∧ p.1 ≠ j)
    (hk : ∀ (ob' : Obs) n' j', TySt C n j0 env' s' ob' n' j' → nx ≤ n' ∧ (j' = j ∨ nx ≤ j') → (∀ i, i < nx → i ≠ C.c → i ≠ C.hm → i ≠ C.fo → i ≠ j → ob' i = ob i) → K ⟨sl, ob', n', nt, bs⟩ r) : ecallM Tryz.prog (.fn f caps) args ⟨sl, ob, nx, nt, bs⟩ K := by
  obtain ⟨c1, c2, c3, c4⟩ := hC
  obtain ⟨mv, cj, cj0, jn, nn, j0n, oc, oj, oh, of_⟩ := st
  refine ecall_e h ?_ ?_
  · intro p hp
    simp only [tyL, List.cons_append, List.nil_append, List.mem_cons] at hp
    rcases hp with rfl | rfl | rfl | rfl | hp
    · exact oc
    · exact oj
    · exact oh
    · exact of_
    · exact (hX p hp).1
  · rintro r' L' n' ⟨j', o, rfl, rfl, hj, hjn, hn⟩
    have hjc : C.c < j' := by rcases hj with rfl | ⟨hj, _⟩ <;> omega
    have hXj : ∀ p ∈ X, p.1 ≠ j' := fun p hp => by
      obtain ⟨x1, x2, x3, x4, x5, x6⟩ := hX p hp
      rcases hj with rfl | ⟨hj, _⟩
      · exact x6
      · omega
    have e : Obs.ov ob (tyL C j' env' s' ++ X ++ [(j, o)]) = upd (upd (upd (upd (Obs.ov (upd ob j (some o)) X) C.fo (some (C.W.ob s'))) C.hm (some (.map C.kh C.mh))) j' (some (.row 3 (env'.map Pm.c)))) C.c (some (tyO C j' env')) := by
      rw [ov_app, ov_app]
      simp only [tyL, ov_cons, ov_nil]
    refine ⟨fun p hp => ?_, fun p hp => ?_, hn, ?_⟩
    · simp only [tyL, List.cons_append, List.nil_append, List.mem_cons] at hp
      rcases hp with rfl | rfl | rfl | rfl | hp
      · exact ⟨_, by simp only [tyL, List.cons_append, List.nil_append, List.mem_cons]; exact .inl rfl⟩
      · exact ⟨o, by simp⟩
      · exact ⟨_, by simp only [tyL, List.cons_append, List.nil_append, List.mem_cons]; exact .inr (.inr (.inl rfl))⟩
      · exact ⟨_, by simp only [tyL, List.cons_append, List.nil_append, List.mem_cons]; exact .inr (.inr (.inr (.inl rfl)))⟩
      · exact ⟨p.2, by simp [hp]⟩
    · simp only [tyL, List.cons_append, List.nil_append, List.mem_cons, List.mem_append, List.not_mem_nil, or_false] at hp ⊢
      rcases hp with rfl | rfl | rfl | rfl | hp | rfl
      · exact ⟨by simp only; omega, .inl ⟨_, .inl rfl⟩⟩
      · refine ⟨hjn, ?_⟩
        rcases hj with rfl | ⟨hj, _⟩
        · exact .inl ⟨_, .inr (.inl rfl)⟩
        · exact .inr hj
      · exact ⟨by simp only; omega, .inl ⟨_, .inr (.inr (.inl rfl))⟩⟩
      · exact ⟨by simp only; omega, .inl ⟨_, .inr (.inr (.inr (.inl rfl)))⟩⟩
      · obtain ⟨x1, x2, x3⟩ := hX p hp
        exact ⟨by omega, .inl ⟨p.2, .inr (.inr (.inr (.inr hp)))⟩⟩
      · exact ⟨by simp only; omega, .inl ⟨_, .inr (.inl rfl)⟩⟩
    · rw [e]
      have hXi : ∀ i, (∀ p ∈ X, p.1 ≠ i) → Obs.ov (upd ob j (some o)) X i = upd ob j (some o) i := fun i hi => ov_out hi
      have hXs : ∀ i, i < nx → i ≠ j → Obs.ov (upd ob j (some o)) X i = ob i := fun i hi hij => by
        by_cases hm : ∃ q, (i, q) ∈ X
        · obtain ⟨_, o2, h2, h3⟩ := Obs.ov_mem (ob := upd ob j (some o)) (ob' := ob) hm
          rw [h2]
          exact (hX _ h3).1.symm
        · rw [hXi i fun p hp e => hm ⟨p.2, by rw [← e]; exact hp⟩, upd_ne _ _ hij]
      refine hk _ n' j' ⟨?_, hjc, cj0, hjn, by omega, j0n, ?_, ?_, ?_, ?_⟩ ⟨hn, by rcases hj with rfl | ⟨hj, _⟩; exact .inl rfl; exact .inr hj⟩ ?_
      · rcases hj with rfl | ⟨hj, q, rfl⟩
        · rcases mv with rfl | ⟨mv1, q, mv2⟩
          · exact .inl rfl
          · refine .inr ⟨mv1, q, ?_⟩
            have : j0 ≠ j' := by omega
            rw [upd_ne _ _ (by omega), upd_ne _ _ this, upd_ne _ _ (by omega), upd_ne _ _ (by omega), hXs _ (by omega) this]
            exact mv2
        · rcases mv with rfl | ⟨mv1, q2, mv2⟩
          · refine .inr ⟨by omega, q, ?_⟩
            rw [upd_ne _ _ (by omega), upd_ne _ _ (by omega), upd_ne _ _ (by omega), upd_ne _ _ (by omega), hXi _ fun p hp => (hX p hp).2.2.2.2.2, upd_same]
          · refine .inr ⟨by omega, q2, ?_⟩
            rw [upd_ne _ _ (by omega), upd_ne _ _ (by omega), upd_ne _ _ (by omega), upd_ne _ _ (by omega), hXs _ (by omega) (by omega)]
            exact mv2
      · exact upd_same _ _ _
      · rw [upd_ne _ _ (by omega)]; exact upd_same _ _ _
      · rw [upd_ne _ _ (by omega), upd_ne _ _ (by omega)]; exact upd_same _ _ _
      · rw [upd_ne _ _ (by omega), upd_ne _ _ (by omega), upd_ne _ _ (by omega)]; exact upd_same _ _ _
      · intro i h1 h2 h3 h4 h5
        have : i ≠ j' := by rcases hj with rfl | ⟨hj, _⟩ <;> omega
        rw [upd_ne _ _ h2, upd_ne _ _ this, upd_ne _ _ h3, upd_ne _ _ h4, hXs _ h1 h5]
/-- A function that has the checker. -/
theorem ty_def {C : TyC} (hC : TyOk C) {X : List (Nat × AObj)} {f : FuncId} {ac : ACode} {res : List ARes} {nt : Nat} (hf : FnW Tryz.prog f ac res nt) {args : List V} {n j : Nat} {env env' : List Pm} {s s' : C.W.σ} {r : V} (hlen : args.length ≤ nt) (hr : ∀ m, n ≤ m → r.bd m = true) (hj : C.c < j) (hn : j < n)
    (hX : ∀ p ∈ X, p.1 < n ∧ p.1 ≠ C.c ∧ p.1 ≠ C.hm ∧ p.1 ≠ C.fo ∧ p.1 ≠ j ∧ ∀ m, n ≤ m → p.2.bd m = true)
    (h : ∀ ob, TySt C n j env s ob n j → (∀ p ∈ X, (∀ q ∈ X, q.1 = p.1 → q = p) → ob p.1 = some p.2) → awp Tryz.prog ac (retK res fun S v => v = r ∧ ∃ j', TySt C n j env' s' S.ob S.nx j' ∧ ∀ p ∈ X, S.ob p.1 = some p.2) ⟨ofL (argL 0 args), ob, n, nt, n⟩) :
    TySpec C X f args n j env env' s s' r := by
  obtain ⟨c1, c2, c3, c4⟩ := hC
  refine cspecE' mixed hf hlen ?_
  have h0 := h (Obs.ov (fun _ => none) (tyL C j env s ++ X)) ⟨.inl rfl, hj, hj, hn, Nat.le_refl _, hn, ?_, ?_, ?_, ?_⟩ ?_
  · have e : (fun (S : St) v => v = r ∧ ∃ j', TySt C n j env' s' S.ob S.nx j' ∧ ∀ p ∈ X, S.ob p.1 = some p.2) = fun S v => v = r ∧ ∃ j', TySt C n j env' s' S.ob S.nx j' ∧ ∀ p ∈ X, S.ob p.1 = some p.2 := rfl
    refine awp_retK ?_ h0
    rintro S v ⟨rfl, j', st, hXS⟩
    obtain ⟨mv, cj, cj0, jn, nn, j0n, oc, oj, oh, of_⟩ := st
    have hbd : ∀ m, bdss m (env'.map Pm.c) = true := fun m => bdss_map (Pm.bd m) env'
    have hbp : ∀ m, bdss m (C.p.map Fn.c) = true := fun m => bdss_map (Fn.bd m) C.p
    have hch : C.hm < S.nx := by omega
    have hcf : C.fo < S.nx := by omega
    have hob : ∃ o, S.ob j = some o ∧ o.bd S.nx = true ∧ (j' = j ∨ (n ≤ j' ∧ ∃ q, o = .tip 3 q)) := by
      rcases mv with rfl | ⟨mv1, q, mv2⟩
      · exact ⟨_, oj, hbd _, .inl rfl⟩
      · exact ⟨_, mv2, rfl, .inr ⟨mv1, q, rfl⟩⟩
    obtain ⟨o, ho, hobd, hmv⟩ := hob
    refine ⟨_, S.nx, ⟨j', o, rfl, rfl, hmv, jn, nn⟩, hr _ nn, nn, ?_, Nat.le_refl _, ?_⟩
    · intro p hp
      simp only [tyL, List.cons_append, List.nil_append, List.mem_cons, List.mem_append, List.not_mem_nil, or_false] at hp
      rcases hp with rfl | rfl | rfl | rfl | hp | rfl
      · refine ⟨by simp only; omega, ?_⟩
        simp [tyO, AObj.bd, bds, V.bd, hbp, jn, hch, hcf]
      · exact ⟨jn, hbd _⟩
      · exact ⟨hch, rfl⟩
      · exact ⟨hcf, C.W.bd _ _⟩
      · obtain ⟨x1, x2, x3, x4, x5, x6⟩ := hX p hp
        exact ⟨by omega, x6 _ nn⟩
      · exact ⟨by simp only; omega, hobd⟩
    · intro p hp
      simp only [tyL, List.cons_append, List.nil_append, List.mem_cons, List.mem_append, List.not_mem_nil, or_false] at hp
      rcases hp with rfl | rfl | rfl | rfl | hp | rfl
      · exact oc
      · exact oj
      · exact oh
      · exact of_
      · exact hXS p hp
      · exact ho
  · rw [ov_app]; simp only [tyL, ov_cons, ov_nil]; exact upd_same _ _ _
  · rw [ov_app]; simp only [tyL, ov_cons, ov_nil]; rw [upd_ne _ _ (by omega)]; exact upd_same _ _ _
  · rw [ov_app]; simp only [tyL, ov_cons, ov_nil]; rw [upd_ne _ _ (by omega), upd_ne _ _ (by omega)]; exact upd_same _ _ _
  · rw [ov_app]; simp only [tyL, ov_cons, ov_nil]; rw [upd_ne _ _ (by omega), upd_ne _ _ (by omega), upd_ne _ _ (by omega)]; exact upd_same _ _ _
  · intro p hp hu
    obtain ⟨x1, x2, x3, x4, x5, x6⟩ := hX p hp
    rw [ov_app]
    simp only [tyL, ov_cons, ov_nil]
    rw [upd_ne _ _ x2, upd_ne _ _ x5, upd_ne _ _ x3, upd_ne _ _ x4]
    obtain ⟨_, o2, h2, h3⟩ := Obs.ov_mem (ob := fun _ => none) (ob' := fun _ => none) (L := X) (i := p.1) ⟨p.2, hp⟩
    rw [h2]
    have := hu _ h3 rfl
    rw [← this]
end Go.Proofs.Fathom
set_option linter.unusedVariables false
set_option linter.unusedSimpArgs false
namespace Go.Proofs.Fathom
open Go Go.Proofs
attribute [local irreducible] PSpec CSpec CSpecE
def lookT : List Pm → ByteArray → Int
  | env, nm => match env.reverse.find? (fun x => decide (x.name = nm)) with
    | some x => x.typ
    | none => 0
theorem lookT_snoc (env : List Pm) (x : Pm) (nm : ByteArray) : lookT (env ++ [x]) nm = if x.name = nm then x.typ else lookT env nm := by
  unfold lookT
  simp only [List.reverse_append, List.reverse_cons, List.reverse_nil, List.nil_append, List.singleton_append, List.find?_cons]
  by_cases h : x.name = nm
  · simp [h]
  · simp [h]
def retF (p : List Fn) (v : Int) : Int := match p[(v - 1).toNat]? with
  | some f => f.typ
  | none => 0
def parTy (p : List Fn) (v : Int) (i : Nat) : Int := match p[(v - 1).toNat]? with
  | some f => (match f.params[i]? with
    | some x => x.typ
    | none => 0)
  | none => 0
def ownT (C : TyC) (env : List Pm) (o y : Int) (nm : ByteArray) (na : Nat) : Int :=
  if o = 2 ∨ o = 3 then 2 else if o = 4 then 3 else if o = 5 then y else if o = 6 then lookT env nm
  else if o = 7 then (if C.mh nm = 0 ∨ arF C.p (C.mh nm) ≠ na then 0 else retF C.p (C.mh nm))
  else if o = 14 then 2 else if o = 18 then 3 else if o = 12 ∨ o = 13 then 2 else 1
def visC (C : TyC) (o : Int) (nm : ByteArray) (na : Nat) : Bool := decide (¬ (o = 2 ∨ o = 3 ∨ o = 4 ∨ o = 5 ∨ o = 6)) && !(decide (o = 7) && decide (C.mh nm = 0 ∨ arF C.p (C.mh nm) ≠ na))
def parT (C : TyC) (o y : Int) (nm : ByteArray) (i : Nat) (t : Int) : Int :=
  if o = 19 then (if i = 0 then 2 else t) else if o = 20 then (if i = 0 then 3 else t) else if o = 21 ∨ o = 22 then (if i = 0 then y else t)
  else if o = 7 then parTy C.p (C.mh nm) i else if o = 14 then 2 else if o = 18 then (if i = 0 then 1 else 3) else 1
def parE (o y : Int) (nm tl : ByteArray) (i : Nat) (env : List Pm) : List Pm :=
  if o = 21 ∨ (o = 22 ∧ i = 1) then env ++ [⟨nm, y, 0⟩] else if o = 20 ∧ i = 2 then env ++ [⟨nm, 1, 0⟩, ⟨tl, 3, 0⟩] else env
mutual
/-- The places that the checker finds wrong, in its order. -/
def wrL (C : TyC) : (e : Ex) → List Pm → Int → List Int
  | .mk o nm tl y r q l a, env, t => (if visC C o nm l.length = true then wrLs C l o y nm tl 0 env t else []) ++ (if (19 ≤ o ∧ o ≤ 22) ∨ ownT C env o y nm l.length = t then [] else [a])
  termination_by structural e => e
def wrLs (C : TyC) : (l : List Ex) → Int → Int → ByteArray → ByteArray → Nat → List Pm → Int → List Int
  | [], _, _, _, _, _, _, _ => []
  | e :: l, o, y, nm, tl, i, env, t => wrL C e (parE o y nm tl i env) (parT C o y nm i t) ++ wrLs C l o y nm tl (i + 1) env t
  termination_by structural l => l
end
theorem wrL_eq (C : TyC) (e : Ex) (env : List Pm) (t : Int) : wrL C e env t = (if visC C e.op e.name e.args.length = true then wrLs C e.args e.op e.typ e.name e.tail 0 env t else []) ++ (if (19 ≤ e.op ∧ e.op ≤ 22) ∨ ownT C env e.op e.typ e.name e.args.length = t then [] else [e.at_]) := by
  cases e
  rw [wrL]
  rfl
def allL (C : TyC) (l : List Ex) (env : List Pm) (t : Int) : List Int := l.flatMap fun e => wrL C e env t
theorem wrLs_all (C : TyC) (o y : Int) (nm tl : ByteArray) (env : List Pm) (t t' : Int) : ∀ (l : List Ex) (i : Nat), (∀ k, k < l.length → parE o y nm tl (i + k) env = env ∧ parT C o y nm (i + k) t = t') → wrLs C l o y nm tl i env t = allL C l env t'
  | [], i, h => rfl
  | e :: l, i, h => by
    have h0 := h 0 (by simp)
    rw [wrLs, wrLs_all C o y nm tl env t t' l (i + 1) (fun k hk => by
      have := h (k + 1) (by simpa using hk)
      rw [show i + 1 + k = i + (k + 1) by omega]
      exact this)]
    simp only [Nat.add_zero] at h0
    rw [h0.1, h0.2]
    simp [allL]
def wnS (C : TyC) (e : Ex) (env : List Pm) (t : Int) (s : C.W.σ) : C.W.σ := (wrL C e env t).foldl C.W.step s
def TyW (C : TyC) (N : Nat) : Prop := ∀ (e : Ex), e.sz ≤ N → e.wf → ∀ (n j : Nat) (env : List Pm) (t : Int) (s : C.W.σ), C.c < j → j < n → env.length + 2 * e.sz ≤ 1000000 →
  TySpec C [] F_types_checker_want [.ptr C.c 0, .agg e.c, I t] n j env env s (wnS C e env t s) (.tup [])
theorem Ex.wfs_get : ∀ (l : List Ex) (i : Nat) (h : i < l.length), Ex.wfs l → (l[i]).wf
  | a :: l, 0, h, w => w.1
  | a :: l, i + 1, h, w => by
    simp only [List.getElem_cons_succ]
    exact Ex.wfs_get l i (by simpa using h) w.2
theorem TySt.put {C : TyC} (hC : TyOk C) {n j0 nx j : Nat} {env : List Pm} {s : C.W.σ} {ob : Obs} (st : TySt C n j0 env s ob nx j) (o : Option AObj) : TySt C n j0 env s (upd ob nx o) (nx + 1) j := by
  obtain ⟨c1, c2, c3, c4⟩ := hC
  obtain ⟨mv, cj, cj0, jn, nn, j0n, oc, oj, oh, of_⟩ := st
  refine ⟨?_, cj, cj0, by omega, by omega, j0n, ?_, ?_, ?_, ?_⟩
  · rcases mv with rfl | ⟨m1, q, m2⟩
    · exact .inl rfl
    · exact .inr ⟨m1, q, by rw [upd_ne _ _ (by omega)]; exact m2⟩
  · rw [upd_ne _ _ (by omega)]; exact oc
  · rw [upd_ne _ _ (by omega)]; exact oj
  · rw [upd_ne _ _ (by omega)]; exact oh
  · rw [upd_ne _ _ (by omega)]; exact of_
theorem TySt.lt {C : TyC} {n j0 nx j : Nat} {env : List Pm} {s : C.W.σ} {ob : Obs} (st : TySt C n j0 env s ob nx j) : C.c < j ∧ j < nx ∧ n ≤ nx := ⟨st.cj, st.jn, st.nn⟩
set_option maxHeartbeats 1000000 in
theorem ty_all {C : TyC} (hC : TyOk C) {N : Nat} (W : TyW C N) (l : List Ex) (tok : Tok) (n j : Nat) (env : List Pm) (t : Int) (s : C.W.σ) (hl : ∀ e ∈ l, e.sz ≤ N ∧ e.wf ∧ env.length + 2 * e.sz ≤ 1000000) (hj : C.c < j) (hn : j < n) (hll : l.length ≤ 1000000) :
    TySpec C [] F_types_checker_all [.ptr C.c 0, I t, .sl tok 7 (Ex.cs l)] n j env env s ((allL C l env t).foldl C.W.step s) (.tup []) := by
  refine ty_def hC w_types_checker_all (by simp) (by simp [V.bd, bds]) hj hn (by simp) fun ob st _ => ?_
  unfold c_types_checker_all r_types_checker_all
  generalize hR : (allL C l env t).foldl C.W.step s = R
  (repeat' (first | simp -implicitDefEqProofs (disch := omega) only [go_sem, ↓reduceIte] | (((first | with_reducible apply cnd_c | with_reducible apply grd_c | with_reducible apply pck_c) <;> intro wh <;> (try rewrite [wh]) <;> try simp only [wdw] at wh) <;> (try (revert wh; intro _)) <;> try (exfalso; omega)) | refine andi ?_ | fail))
  refine loop_o (fun q : Nat × C.W.σ × Nat × Nat => ofL [(0, .ptr C.c 0), (1, I t), (8, .sl tok 7 (Ex.cs l)), (9, I l.length), (10, I q.1)]) (fun q => q.2.2.1) (fun q => l.length - q.1)
    (fun q ob => q.1 ≤ l.length ∧ (allL C (l.drop q.1) env t).foldl C.W.step q.2.1 = R ∧ TySt C n j env q.2.1 ob q.2.2.1 q.2.2.2) (0, s, n, j) rfl rfl ⟨Nat.zero_le _, hR, st⟩ fun q ob hq => ?_
  obtain ⟨i, s1, y, j1⟩ := q
  simp only at hq ⊢
  obtain ⟨hi, hfin, st⟩ := hq
  (simp -implicitDefEqProofs (disch := omega) only [go_sem, ↓reduceIte])
  ((first | with_reducible apply cnd_c | with_reducible apply grd_c | with_reducible apply pck_c) <;> intro h <;> (try rewrite [h]) <;> try simp only [wdw] at h)
  · rw [List.drop_eq_nil_of_le (by omega)] at hfin
    simp only [allL, List.flatMap_nil, List.foldl_nil] at hfin
    subst hfin
    (repeat' (first | simp -implicitDefEqProofs (disch := omega) only [go_sem, ↓reduceIte] | (((first | with_reducible apply cnd_c | with_reducible apply grd_c | with_reducible apply pck_c) <;> intro wh <;> (try rewrite [wh]) <;> try simp only [wdw] at wh) <;> (try (revert wh; intro _)) <;> try (exfalso; omega)) | refine andi ?_ | fail))
    exact ⟨j1, st⟩
  · have hlt : i < l.length := by omega
    rw [List.drop_eq_getElem_cons hlt] at hfin
    simp only [allL, List.flatMap_cons, List.foldl_append] at hfin
    have hle := hl _ (List.getElem_mem hlt)
    have hg := getq hlt
    generalize l[i] = e at *
    have hlt3 := st.lt
    (repeat' (first | simp -implicitDefEqProofs (disch := omega) only [go_sem, ↓reduceIte, hg] | (((first | with_reducible apply cnd_c | with_reducible apply grd_c | with_reducible apply pck_c) <;> intro wh <;> (try rewrite [wh]) <;> try simp only [wdw] at wh) <;> (try (revert wh; intro _)) <;> try (exfalso; omega)) | refine andi ?_ | fail))
    refine ty_call hC (st.put hC _) (W e hle.1 hle.2.1 (y + 1) j1 env t s1 hlt3.1 (by omega) (by omega)) (by simp) ?_
    intro ob' n' j' st' hn' hfr
    (repeat' (first | simp -implicitDefEqProofs (disch := omega) only [go_sem, ↓reduceIte] | (((first | with_reducible apply cnd_c | with_reducible apply grd_c | with_reducible apply pck_c) <;> intro wh <;> (try rewrite [wh]) <;> try simp only [wdw] at wh) <;> (try (revert wh; intro _)) <;> try (exfalso; omega)) | refine andi ?_ | fail))
    exact ⟨(i + 1, wnS C e env t s1, n', j'), ⟨by simp only; omega, hfin, st'⟩, by simp only; omega, rfl, rfl⟩
end Go.Proofs.Fathom
set_option linter.unusedVariables false
set_option linter.unusedSimpArgs false
namespace Go.Proofs.Fathom
open Go Go.Proofs
attribute [local irreducible] PSpec CSpec CSpecE
section
variable {C : TyC} {j : Nat} {env : List Pm}
theorem ty_ld0 {K : V → Prop} : ldO (some (tyO C j env)) 0 1 false K = K (.map C.hm) := by simp [tyO, ldO, ldv]
theorem ty_ld1 {K : V → Prop} : ldO (some (tyO C j env)) 1 1 false K = K (.sl .no 11 (C.p.map Fn.c)) := by simp [tyO, ldO, ldv]
theorem ty_ld2 {K : V → Prop} : ldO (some (tyO C j env)) 2 1 false K = K (.row j env.length 3 0 env.length) := by simp [tyO, ldO, ldv]
theorem ty_ld3 {K : V → Prop} : ldO (some (tyO C j env)) 3 1 false K = K (.fn C.W.f [.ptr C.fo 0]) := by simp [tyO, ldO, ldv]
end
attribute [go_sem] ty_ld0 ty_ld1 ty_ld2 ty_ld3
theorem Ex.c_d1 (e : Ex) : List.drop 1 e.c = [.str e.name, .str e.tail, .int .i64 e.typ, .cpx e.re e.im, .sl .no 7 (Ex.cs e.args), .int .i64 e.at_] := by rw [Ex.c_eq]; rfl
set_option maxHeartbeats 2000000 in
theorem ty_callS {C : TyC} (hC : TyOk C) {N : Nat} (W : TyW C N) (e : Ex) (he : e.op = 7) (hz : e.sz ≤ N + 1) (hwf : e.wf) (n j : Nat) (env : List Pm) (t : Int) (s : C.W.σ) (hj : C.c < j) (hn : j < n) (hb : env.length + 2 * e.sz ≤ 1000000) :
    TySpec C [] F_types_checker_call [.ptr C.c 0, .agg e.c] n j env env s ((if visC C e.op e.name e.args.length = true then wrLs C e.args e.op e.typ e.name e.tail 0 env t else []).foldl C.W.step s) (I (ownT C env e.op e.typ e.name e.args.length)) := by
  refine ty_def hC w_types_checker_call (by simp) (by simp [V.bd, bds]) hj hn (by simp) fun ob st _ => ?_
  unfold c_types_checker_call r_types_checker_call
  have hsz := Ex.sz_eq e
  have hlen := Ex.szs_len e.args
  have hmh := hC.hh e.name
  have hp := hC.hp
  have ho : ownT C env e.op e.typ e.name e.args.length = if C.mh e.name = 0 ∨ arF C.p (C.mh e.name) ≠ e.args.length then 0 else retF C.p (C.mh e.name) := by
    unfold ownT
    simp [he]
  have hv : visC C e.op e.name e.args.length = !decide (C.mh e.name = 0 ∨ arF C.p (C.mh e.name) ≠ e.args.length) := by
    unfold visC
    simp [he]
  rw [ho, hv]
  by_cases hz0 : C.mh e.name = 0
  · have hz0' : (C.mh e.name = 0) = True := eq_true hz0
    simp only [hz0, true_or, if_true, decide_true, Bool.not_true, Bool.false_eq_true, if_false, List.foldl_nil]
    (repeat' (first | simp -implicitDefEqProofs (disch := omega) only [go_sem, ↓reduceIte, Ex.c_d1, Ex.c_d5, st.oc, st.oh, hz0'] | (((first | with_reducible apply cnd_c | with_reducible apply grd_c | with_reducible apply pck_c) <;> intro wh <;> (try rewrite [wh]) <;> try simp only [wdw] at wh) <;> (try (revert wh; intro _)) <;> try (exfalso; omega)) | refine andi ?_ | fail))
    exact ⟨j, st⟩
  · have hz0' : (C.mh e.name = 0) = False := eq_false hz0
    have hlt : (C.mh e.name - 1).toNat < C.p.length := by omega
    have hg := getq hlt
    have ha : arF C.p (C.mh e.name) = (C.p[(C.mh e.name - 1).toNat]).params.length := by simp only [arF, hg]
    have hrf : retF C.p (C.mh e.name) = (C.p[(C.mh e.name - 1).toNat]).typ := by simp only [retF, hg]
    have hpt : ∀ i, parTy C.p (C.mh e.name) i = match (C.p[(C.mh e.name - 1).toNat]).params[i]? with
      | some x => x.typ
      | none => 0 := fun i => by simp only [parTy, hg] <;> rfl
    generalize C.p[(C.mh e.name - 1).toNat] = f at *
    rw [ha, hrf]
    by_cases hna : f.params.length = e.args.length
    · have hna' : ((f.params.length : Int) = (e.args.length : Int)) = True := eq_true (by omega)
      simp only [hz0, false_or, ne_eq, hna, not_true, if_false, decide_false, Bool.not_false, if_true]
      generalize hR : (wrLs C e.args e.op e.typ e.name e.tail 0 env t).foldl C.W.step s = R
      (repeat' (first | simp -implicitDefEqProofs (disch := omega) only [go_sem, ↓reduceIte, Ex.c_d1, Ex.c_d5, st.oc, st.oh, hz0', hg, Fn.c, hna'] | (((first | with_reducible apply cnd_c | with_reducible apply grd_c | with_reducible apply pck_c) <;> intro wh <;> (try rewrite [wh]) <;> try simp only [wdw] at wh) <;> (try (revert wh; intro _)) <;> try (exfalso; omega)) | refine andi ?_ | fail))
      refine loop_o (fun q : Nat × C.W.σ × Nat × Nat => ofL [(0, .ptr C.c 0), (3, .cref e.c), (5, I (C.mh e.name)), (41, .sl .no 3 (f.params.map Pm.c)), (42, I f.params.length), (43, I q.1)]) (fun q => q.2.2.1) (fun q => f.params.length - q.1)
        (fun q ob => q.1 ≤ f.params.length ∧ (wrLs C (e.args.drop q.1) e.op e.typ e.name e.tail q.1 env t).foldl C.W.step q.2.1 = R ∧ TySt C n j env q.2.1 ob q.2.2.1 q.2.2.2) (0, s, n, j) rfl rfl ⟨Nat.zero_le _, hR, st⟩ fun q ob hq => ?_
      obtain ⟨i, s1, y, j1⟩ := q
      simp only at hq ⊢
      obtain ⟨hi, hfin, st⟩ := hq
      (simp -implicitDefEqProofs (disch := omega) only [go_sem, ↓reduceIte])
      ((first | with_reducible apply cnd_c | with_reducible apply grd_c | with_reducible apply pck_c) <;> intro h <;> (try rewrite [h]) <;> try simp only [wdw] at h)
      · rw [List.drop_eq_nil_of_le (by omega)] at hfin
        simp only [wrLs, List.foldl_nil] at hfin
        subst hfin
        (repeat' (first | simp -implicitDefEqProofs (disch := omega) only [go_sem, ↓reduceIte, st.oc, hg, Fn.c] | (((first | with_reducible apply cnd_c | with_reducible apply grd_c | with_reducible apply pck_c) <;> intro wh <;> (try rewrite [wh]) <;> try simp only [wdw] at wh) <;> (try (revert wh; intro _)) <;> try (exfalso; omega)) | refine andi ?_ | fail))
        exact ⟨j1, st⟩
      · have hlt : i < f.params.length := by omega
        have hla : i < e.args.length := by omega
        rw [List.drop_eq_getElem_cons hla] at hfin
        simp only [wrLs, List.foldl_append] at hfin
        have hxs := Ex.szs_get e.args i hla
        have hxw := Ex.wfs_get e.args i hla (by cases e; exact hwf.2)
        have hpe : parE e.op e.typ e.name e.tail i env = env := by simp [parE, he]
        have hpx : parT C e.op e.typ e.name i t = f.params[i].typ := by
          unfold parT
          simp [he, hpt, getq hlt]
        rw [hpe, hpx] at hfin
        have hg1 := getq hlt
        have hg2 := getq hla
        generalize e.args[i] = x at *
        generalize f.params[i] = z at *
        have hlt3 := st.lt
        (repeat' (first | simp -implicitDefEqProofs (disch := omega) only [go_sem, ↓reduceIte, hg1, hg2, Pm.c, Ex.c_d5] | (((first | with_reducible apply cnd_c | with_reducible apply grd_c | with_reducible apply pck_c) <;> intro wh <;> (try rewrite [wh]) <;> try simp only [wdw] at wh) <;> (try (revert wh; intro _)) <;> try (exfalso; omega)) | refine andi ?_ | fail))
        refine ty_call hC (st.put hC _) (W x (by omega) hxw (y + 1) j1 env z.typ s1 hlt3.1 (by omega) (by omega)) (by simp) ?_
        intro ob' n' j' st' hn' hfr
        (repeat' (first | simp -implicitDefEqProofs (disch := omega) only [go_sem, ↓reduceIte] | (((first | with_reducible apply cnd_c | with_reducible apply grd_c | with_reducible apply pck_c) <;> intro wh <;> (try rewrite [wh]) <;> try simp only [wdw] at wh) <;> (try (revert wh; intro _)) <;> try (exfalso; omega)) | refine andi ?_ | fail))
        exact ⟨(i + 1, wnS C x env z.typ s1, n', j'), ⟨by simp only; omega, hfin, st'⟩, by simp only; omega, rfl, rfl⟩
    · have hna' : ((f.params.length : Int) = (e.args.length : Int)) = False := eq_false (by omega)
      simp only [hz0, false_or, ne_eq, hna, not_false_eq_true, if_true, decide_true, Bool.not_true, Bool.false_eq_true, if_false, List.foldl_nil]
      (repeat' (first | simp -implicitDefEqProofs (disch := omega) only [go_sem, ↓reduceIte, Ex.c_d1, Ex.c_d5, st.oc, st.oh, hz0', hg, Fn.c, hna'] | (((first | with_reducible apply cnd_c | with_reducible apply grd_c | with_reducible apply pck_c) <;> intro wh <;> (try rewrite [wh]) <;> try simp only [wdw] at wh) <;> (try (revert wh; intro _)) <;> try (exfalso; omega)) | refine andi ?_ | fail))
      exact ⟨j, st⟩
theorem ty_own {C : TyC} (hC : TyOk C) {N : Nat} (W : TyW C N) (e : Ex) (ho : ¬ (19 ≤ e.op ∧ e.op ≤ 22)) (hz : e.sz ≤ N + 1) (hwf : e.wf) (n j : Nat) (env : List Pm) (t : Int) (s : C.W.σ) (hj : C.c < j) (hn : j < n) (hb : env.length + 2 * e.sz ≤ 1000000) :
    TySpec C [] F_types_checker_own [.ptr C.c 0, .agg e.c] n j env env s ((if visC C e.op e.name e.args.length = true then wrLs C e.args e.op e.typ e.name e.tail 0 env t else []).foldl C.W.step s) (I (ownT C env e.op e.typ e.name e.args.length)) := by
  refine ty_def hC w_types_checker_own (by simp) (by simp [V.bd, bds]) hj hn (by simp) fun ob st _ => ?_
  unfold c_types_checker_own r_types_checker_own
  have hsz := Ex.sz_eq e
  have hlen := Ex.szs_len e.args
  have harg : ∀ x ∈ e.args, x.sz ≤ N ∧ x.wf ∧ env.length + 2 * x.sz ≤ 1000000 := fun x hx => by
    obtain ⟨i, hi, rfl⟩ := List.getElem_of_mem hx
    have := Ex.szs_get e.args i hi
    exact ⟨by omega, Ex.wfs_get e.args i hi (by cases e; exact hwf.2), by omega⟩
  have ho19 : ¬ e.op = 19 := by omega
  have ho20 : ¬ e.op = 20 := by omega
  have ho21 : ¬ e.op = 21 := by omega
  have ho22 : ¬ e.op = 22 := by omega
  have hall : ∀ t', (∀ k, k < e.args.length → parT C e.op e.typ e.name k t = t') → wrLs C e.args e.op e.typ e.name e.tail 0 env t = allL C e.args env t' := fun t' h => by
    refine wrLs_all C _ _ _ _ env t t' e.args 0 fun k hk => ⟨?_, by rw [Nat.zero_add]; exact h k hk⟩
    simp [parE, ho20, ho21, ho22]
  by_cases h7 : e.op = 7
  · have hc := ty_callS hC W e h7 hz hwf n j env t s hj hn hb
    generalize (if visC C e.op e.name e.args.length = true then wrLs C e.args e.op e.typ e.name e.tail 0 env t else []).foldl C.W.step s = R at *
    (repeat' (first | simp -implicitDefEqProofs (disch := omega) only [go_sem, ↓reduceIte, Ex.c_eq e] | (((first | with_reducible apply cnd_c | with_reducible apply grd_c | with_reducible apply pck_c) <;> intro wh <;> (try rewrite [wh]) <;> try simp only [wdw] at wh) <;> (try (revert wh; intro _)) <;> try (exfalso; omega)) | refine andi ?_ | fail))
    rw [← Ex.c_eq e]
    refine ty_call hC st hc (by simp) ?_
    intro ob' n' j' st' hn' hfr
    (repeat' (first | simp -implicitDefEqProofs (disch := omega) only [go_sem, ↓reduceIte] | (((first | with_reducible apply cnd_c | with_reducible apply grd_c | with_reducible apply pck_c) <;> intro wh <;> (try rewrite [wh]) <;> try simp only [wdw] at wh) <;> (try (revert wh; intro _)) <;> try (exfalso; omega)) | refine andi ?_ | fail))
    exact ⟨j', st'⟩
  by_cases h6 : e.op = 6
  · have hv : visC C e.op e.name e.args.length = false := by simp [visC, h6]
    have hoo : ownT C env e.op e.typ e.name e.args.length = lookT env e.name := by simp [ownT, h6]
    rw [hv, hoo]
    simp only [Bool.false_eq_true, if_false, List.foldl_nil]
    (repeat' (first | simp -implicitDefEqProofs (disch := omega) only [go_sem, ↓reduceIte, Ex.c_eq e, st.oc, st.oj] | (((first | with_reducible apply cnd_c | with_reducible apply grd_c | with_reducible apply pck_c) <;> intro wh <;> (try rewrite [wh]) <;> try simp only [wdw] at wh) <;> (try (revert wh; intro _)) <;> try (exfalso; omega)) | refine andi ?_ | fail))
    refine loop_o (fun q : Nat => ofL [(0, .ptr C.c 0), (3, .cref e.c), (5, I ((q : Int) - 1))]) (fun q => n) (fun q => q)
      (fun q ob' => q ≤ env.length ∧ ob' = ob ∧ lookT env e.name = lookT (env.take q) e.name) env.length (by rw [Ex.c_eq e]) rfl ⟨Nat.le_refl _, rfl, by rw [List.take_of_length_le (Nat.le_refl _)]⟩ fun q ob' hq => ?_
    obtain ⟨hq, rfl, hlk⟩ := hq
    cases q with
    | zero =>
      have h0 : lookT env e.name = 0 := hlk
      rw [h0]
      (repeat' (first | simp -implicitDefEqProofs (disch := omega) only [go_sem, ↓reduceIte] | (((first | with_reducible apply cnd_c | with_reducible apply grd_c | with_reducible apply pck_c) <;> intro wh <;> (try rewrite [wh]) <;> try simp only [wdw] at wh) <;> (try (revert wh; intro _)) <;> try (exfalso; omega)) | refine andi ?_ | fail))
      exact ⟨j, st⟩
    | succ q =>
      have hlt : q < env.length := by omega
      have hsn := lookT_snoc (env.take q) env[q] e.name
      rw [take_snoc hlt] at hsn
      have hg := getq hlt
      rw [hsn] at hlk
      generalize env[q] = x at *
      have e1 : (((q + 1 : Nat) : Int) - 1) = (q : Int) := by omega
      (repeat' (first | simp -implicitDefEqProofs (disch := omega) only [go_sem, ↓reduceIte, Ex.c_eq e, st.oc, st.oj, hg, Pm.c, e1] | (((first | with_reducible apply cnd_c | with_reducible apply grd_c | with_reducible apply pck_c) <;> intro wh <;> (try rewrite [wh]) <;> try simp only [wdw] at wh) <;> (try (revert wh; intro _)) <;> try (exfalso; omega)) | refine andi ?_ | fail))
      · rename_i hne
        rw [if_neg hne] at hlk
        exact ⟨q, ⟨by omega, hlk⟩, by omega, rfl⟩
      · rename_i heq
        rw [if_pos heq] at hlk
        rw [hlk]
        exact ⟨rfl, j, st⟩
  by_cases hq : e.op = 2 ∨ e.op = 3 ∨ e.op = 4 ∨ e.op = 5
  · have hv : visC C e.op e.name e.args.length = false := by
      rcases hq with h | h | h | h <;> simp [visC, h]
    rw [hv]
    simp only [Bool.false_eq_true, if_false, List.foldl_nil]
    (repeat' (first | simp -implicitDefEqProofs (disch := omega) only [go_sem, ↓reduceIte, Ex.c_eq e] | (((first | with_reducible apply cnd_c | with_reducible apply grd_c | with_reducible apply pck_c) <;> intro wh <;> (try rewrite [wh]) <;> try simp only [wdw] at wh) <;> (try (revert wh; intro _)) <;> try (exfalso; omega)) | refine andi ?_ | fail))
    all_goals
      refine ⟨?_, j, st⟩
      unfold ownT
      simp_all
  have hv : visC C e.op e.name e.args.length = true := by
    unfold visC
    simp only [Bool.and_eq_true, decide_eq_true_eq, Bool.not_eq_true', Bool.and_eq_false_iff, decide_eq_false_iff_not]
    exact ⟨by omega, .inl h7⟩
  rw [hv, if_pos rfl]
  by_cases h14 : e.op = 14
  · have hoo : ownT C env e.op e.typ e.name e.args.length = 2 := by simp [ownT, h14]
    have ha := ty_all hC W e.args .no n j env 2 s harg hj hn (by omega)
    rw [hoo, hall 2 (fun k hk => by simp [parT, h14])]
    generalize (allL C e.args env 2).foldl C.W.step s = R at *
    (repeat' (first | simp -implicitDefEqProofs (disch := omega) only [go_sem, ↓reduceIte, Ex.c_eq e] | (((first | with_reducible apply cnd_c | with_reducible apply grd_c | with_reducible apply pck_c) <;> intro wh <;> (try rewrite [wh]) <;> try simp only [wdw] at wh) <;> (try (revert wh; intro _)) <;> try (exfalso; omega)) | refine andi ?_ | fail))
    refine ty_call hC st ha (by simp) ?_
    intro ob' n' j' st' hn' hfr
    (repeat' (first | simp -implicitDefEqProofs (disch := omega) only [go_sem, ↓reduceIte] | (((first | with_reducible apply cnd_c | with_reducible apply grd_c | with_reducible apply pck_c) <;> intro wh <;> (try rewrite [wh]) <;> try simp only [wdw] at wh) <;> (try (revert wh; intro _)) <;> try (exfalso; omega)) | refine andi ?_ | fail))
    exact ⟨j', st'⟩
  by_cases h18 : e.op = 18
  · have hoo : ownT C env e.op e.typ e.name e.args.length = 3 := by simp [ownT, h18]
    rw [hoo]
    have hl2 : e.args.length = 2 := by
      cases e
      exact hwf.1.2.2.2.2 h18
    obtain ⟨x, y, hxy⟩ : ∃ x y, e.args = [x, y] := by
      match hA : e.args, hl2 with
      | [x, y], _ => exact ⟨x, y, rfl⟩
    have hx := harg x (by simp [hxy])
    have hy := harg y (by simp [hxy])
    have hR : wrLs C e.args e.op e.typ e.name e.tail 0 env t = wrL C x env 1 ++ wrL C y env 3 := by
      rw [hxy]
      simp [wrLs, parE, parT, h18]
    rw [hR, List.foldl_append]
    have hcs : Ex.cs e.args = [x.c, y.c] := by rw [hxy]; rfl
    (repeat' (first | simp -implicitDefEqProofs (disch := omega) only [go_sem, ↓reduceIte, Ex.c_eq e, hcs] | (((first | with_reducible apply cnd_c | with_reducible apply grd_c | with_reducible apply pck_c) <;> intro wh <;> (try rewrite [wh]) <;> try simp only [wdw] at wh) <;> (try (revert wh; intro _)) <;> try (exfalso; omega)) | refine andi ?_ | fail))
    refine ty_call hC st (W x hx.1 hx.2.1 n j env 1 s hj hn hx.2.2) (by simp) ?_
    intro ob' n' j' st' hn' hfr
    have hlt3 := st'.lt
    (repeat' (first | simp -implicitDefEqProofs (disch := omega) only [go_sem, ↓reduceIte, hcs] | (((first | with_reducible apply cnd_c | with_reducible apply grd_c | with_reducible apply pck_c) <;> intro wh <;> (try rewrite [wh]) <;> try simp only [wdw] at wh) <;> (try (revert wh; intro _)) <;> try (exfalso; omega)) | refine andi ?_ | fail))
    refine ty_call hC st' (W y hy.1 hy.2.1 n' j' env 3 _ hlt3.1 (by omega) hy.2.2) (by simp) ?_
    intro ob2 n2 j2 st2 hn2 hfr2
    (repeat' (first | simp -implicitDefEqProofs (disch := omega) only [go_sem, ↓reduceIte] | (((first | with_reducible apply cnd_c | with_reducible apply grd_c | with_reducible apply pck_c) <;> intro wh <;> (try rewrite [wh]) <;> try simp only [wdw] at wh) <;> (try (revert wh; intro _)) <;> try (exfalso; omega)) | refine andi ?_ | fail))
    exact ⟨j2, st2⟩
  · have ha := ty_all hC W e.args .no n j env 1 s harg hj hn (by omega)
    rw [hall 1 (fun k hk => by
      unfold parT
      rw [if_neg ho19, if_neg ho20, if_neg (by omega), if_neg h7, if_neg h14, if_neg h18])]
    generalize (allL C e.args env 1).foldl C.W.step s = R at *
    have hoo : ownT C env e.op e.typ e.name e.args.length = if e.op = 12 ∨ e.op = 13 then 2 else 1 := by
      unfold ownT
      rw [if_neg (by omega), if_neg (by omega), if_neg (by omega), if_neg h6, if_neg h7, if_neg h14, if_neg h18]
    rw [hoo]
    (repeat' (first | simp -implicitDefEqProofs (disch := omega) only [go_sem, ↓reduceIte, Ex.c_eq e] | (((first | with_reducible apply cnd_c | with_reducible apply grd_c | with_reducible apply pck_c) <;> intro wh <;> (try rewrite [wh]) <;> try simp only [wdw] at wh) <;> (try (revert wh; intro _)) <;> try (exfalso; omega)) | refine andi ?_ | fail))
    refine ty_call hC st ha (by simp) ?_
    intro ob' n' j' st' hn' hfr
    (repeat' (first | simp -implicitDefEqProofs (disch := omega) only [go_sem, ↓reduceIte, Ex.c_eq e] | (((first | with_reducible apply cnd_c | with_reducible apply grd_c | with_reducible apply pck_c) <;> intro wh <;> (try rewrite [wh]) <;> try simp only [wdw] at wh) <;> (try (revert wh; intro _)) <;> try (exfalso; omega)) | refine andi ?_ | fail))
    all_goals
      refine ⟨?_, j', st'⟩
      simp_all
end Go.Proofs.Fathom
