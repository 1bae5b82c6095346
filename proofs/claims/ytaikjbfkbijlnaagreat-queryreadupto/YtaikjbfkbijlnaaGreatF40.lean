/- A part of the proof of 'Rows.QueryReadUptoSaid': for every text and every seeds (of bulk at most 1048576 together) fathomlaw19.QueryRead returns true and its arguments read afterwards as before. -/
import Derived.Test.YtaikjbfkbijlnaaGreatF39
set_option linter.unusedVariables false
set_option linter.unusedSimpArgs false
namespace Go.Proofs.Fathom
open Go Go.Proofs
attribute [local irreducible] PSpec CSpec
def plcF : List Fn → Nat → List ByteArray × (ByteArray → Int) × (Int × Int) → List ByteArray × (ByteArray → Int) × (Int × Int)
  | [], i, st => st
  | f :: l, i, st => plcF l (i + 1) (if 0 < st.2.1 f.name then (st.1, st.2.1, tellF st.2.2 30 f.at_) else (insK st.1 f.name, (fun x => if x = f.name then (i : Int) + 1 else st.2.1 x), st.2.2))
def parF : List Pm → List ByteArray × (ByteArray → Int) × (Int × Int) → List ByteArray × (ByteArray → Int) × (Int × Int)
  | [], st => st
  | x :: l, st => parF l (insK st.1 x.name, incM st.2.1 x.name, if 0 < st.2.1 x.name then tellF st.2.2 30 x.at_ else st.2.2)
def bodF (C : ScC) : List Fn → Int × Int → Int × Int
  | [], s => s
  | f :: l, s => bodF C l (walkF C f.body (parF f.params ([], (fun _ => 0), s)).2.1 ((parF f.params ([], (fun _ => 0), s)).1, (parF f.params ([], (fun _ => 0), s)).2.2)).2
def scC (p : List Fn) (n : Nat) : ScC := ⟨n, n + 1 + 1, n + 1 + 1 + 1, n + 1 + 1 + 1 + 1, n + 1 + 1 + 1 + 1 + 1, p, (plcF p 0 ([], (fun _ => 0), (0, 0))).1, (plcF p 0 ([], (fun _ => 0), (0, 0))).2.1⟩
theorem visF_n (p : List Fn) (n n' : Nat) (m : ByteArray → Int) (e : Ex) (s : Int × Int) : visF (scC p n) m e s = visF (scC p n') m e s := rfl
mutual
theorem walkF_n (p : List Fn) (n n' : Nat) : (e : Ex) → (m : ByteArray → Int) → (st : List ByteArray × (Int × Int)) → walkF (scC p n) e m st = walkF (scC p n') e m st
  | .mk o nm t y r q l a, m, st => by
    rw [walkF, walkF, walkFs_n p n n' l]
    rfl
  termination_by structural e => e
theorem walkFs_n (p : List Fn) (n n' : Nat) : (l : List Ex) → (o : Int) → (nm t : ByteArray) → (i : Nat) → (m : ByteArray → Int) → (st : List ByteArray × (Int × Int)) → walkFs (scC p n) l o nm t i m st = walkFs (scC p n') l o nm t i m st
  | [], _, _, _, _, _, _ => rfl
  | e :: l, o, nm, t, i, m, st => by
    rw [walkFs, walkFs, walkF_n p n n' e, walkFs_n p n n' l]
  termination_by structural l => l
end
theorem bodF_n (p : List Fn) (n n' : Nat) : ∀ (l : List Fn) (s : Int × Int), bodF (scC p n) l s = bodF (scC p n') l s
  | [], s => rfl
  | f :: l, s => by rw [bodF, bodF, walkF_n p n n', bodF_n p n n' l]
/-- What scope.Check tells. -/
def scF (p : List Fn) : Int × Int := bodF (scC p 0) p (plcF p 0 ([], (fun _ => 0), (0, 0))).2.2
theorem plcF_bd : ∀ (l : List Fn) (i : Nat) (st : List ByteArray × (ByteArray → Int) × (Int × Int)), (∀ k, st.2.1 k = 0 ∨ (1 ≤ st.2.1 k ∧ st.2.1 k ≤ i)) → ∀ k, (plcF l i st).2.1 k = 0 ∨ (1 ≤ (plcF l i st).2.1 k ∧ (plcF l i st).2.1 k ≤ i + l.length)
  | [], i, st, h, k => by
    have := h k
    simp only [plcF, List.length_nil]
    omega
  | f :: l, i, st, h, k => by
    have ih := plcF_bd l (i + 1) (if 0 < st.2.1 f.name then (st.1, st.2.1, tellF st.2.2 30 f.at_) else (insK st.1 f.name, (fun x => if x = f.name then (i : Int) + 1 else st.2.1 x), st.2.2)) (fun k => by
      have := h k
      split
      · simp only; omega
      · simp only
        split <;> omega) k
    simp only [plcF, List.length_cons]
    omega
theorem parF_bd : ∀ (l : List Pm) (st : List ByteArray × (ByteArray → Int) × (Int × Int)) (k : ByteArray), st.2.1 k ≤ (parF l st).2.1 k ∧ (parF l st).2.1 k ≤ st.2.1 k + l.length
  | [], st, k => by simp [parF]
  | x :: l, st, k => by
    have ih := parF_bd l (insK st.1 x.name, incM st.2.1 x.name, if 0 < st.2.1 x.name then tellF st.2.2 30 x.at_ else st.2.2) k
    have h1 : st.2.1 k ≤ incM st.2.1 x.name k ∧ incM st.2.1 x.name k ≤ st.2.1 k + 1 := by
      unfold incM
      split
      · rename_i h; subst h; omega
      · omega
    simp only [parF, List.length_cons] at ih ⊢
    omega
theorem plcF_snoc : ∀ (l : List Fn) (i : Nat) (st : List ByteArray × (ByteArray → Int) × (Int × Int)) (f : Fn), plcF (l ++ [f]) i st = plcF [f] (i + l.length) (plcF l i st)
  | [], i, st, f => rfl
  | g :: l, i, st, f => by
    rw [List.cons_append, plcF, plcF_snoc l, List.length_cons, plcF.eq_2 i st g l]
    congr 1
    omega
theorem parF_snoc : ∀ (l : List Pm) (st : List ByteArray × (ByteArray → Int) × (Int × Int)) (x : Pm), parF (l ++ [x]) st = parF [x] (parF l st)
  | [], st, x => rfl
  | y :: l, st, x => by rw [List.cons_append, parF, parF_snoc l, parF.eq_2 st y l]
set_option maxHeartbeats 4000000 in
theorem scope_Check_spec (p : List Fn) (hp : p.length ≤ 100000) (hf : ∀ f ∈ p, f.params.length + 2 * f.body.sz ≤ 1000000) : PS F_scope_Check [progV p] (.agg [I (scF p).1, I (scF p).2]) := by
  refine pspec' mixed w_scope_Check (by simp) (by simp [V.bd, bds]) fun n => ?_
  unfold c_scope_Check r_scope_Check
  have hscF : scF p = bodF (scC p n) p (plcF p 0 ([], (fun _ => 0), (0, 0))).2.2 := bodF_n p 0 n p _
  rw [hscF]
  have hpb := plcF_bd p 0 ([], (fun _ => 0), (0, 0)) (fun k => .inl rfl)
  generalize hP : plcF p 0 ([], (fun _ => 0), (0, 0)) = P at *
  have hCC : scC p n = ⟨n, n + 1 + 1, n + 1 + 1 + 1, n + 1 + 1 + 1 + 1, n + 1 + 1 + 1 + 1 + 1, p, P.1, P.2.1⟩ := by unfold scC; rw [hP]
  (repeat' (first | simp -implicitDefEqProofs (disch := omega) only [go_sem, ↓reduceIte, progV] | (((first | with_reducible apply cnd_c | with_reducible apply grd_c | with_reducible apply pck_c) <;> intro wh <;> (try rewrite [wh]) <;> try simp only [wdw] at wh) <;> (try (revert wh; intro _)) <;> try (exfalso; omega)) | refine andi ?_ | fail))
  refine loop_o (fun t : Nat × Nat => ofL [(1, .ptr n 0), (2, .ptr (n + 1) 0), (3, .ptr (n + 1 + 1) 0), (4, .ptr (n + 1 + 1 + 1) 0), (5, .ptr (n + 1 + 1 + 1 + 1 + 1) 0), (16, .sl .no 11 (p.map Fn.c)), (17, I p.length), (18, I t.1)]) (fun t => t.2) (fun t => p.length - t.1)
    (fun t ob => t.1 ≤ p.length ∧ n + 6 ≤ t.2 ∧ ob n = some (.cells [.sl .no 11 (p.map Fn.c)]) ∧ ob (n + 1) = some (.cells [I 0, I 0]) ∧ ob (n + 1 + 1) = some (fltO (plcF (p.take t.1) 0 ([], (fun _ => 0), (0, 0))).2.2) ∧ ob (n + 1 + 1 + 1) = some (.cells [.fn F_scope_Check_1 [.ptr (n + 1 + 1) 0]]) ∧
      ob (n + 1 + 1 + 1 + 1) = some (.map (plcF (p.take t.1) 0 ([], (fun _ => 0), (0, 0))).1 (plcF (p.take t.1) 0 ([], (fun _ => 0), (0, 0))).2.1) ∧ ob (n + 1 + 1 + 1 + 1 + 1) = some (.cells [.map (n + 1 + 1 + 1 + 1)]))
    (0, n + 1 + 1 + 1 + 1 + 1 + 1) rfl rfl ⟨Nat.zero_le _, by simp only; omega, ?_, ?_, ?_, ?_, ?_, ?_⟩ fun t ob ht => ?_
  · simp (disch := omega) only [upd_same', upd_ne']
  · simp (disch := omega) only [upd_same', upd_ne']
  · simp (disch := omega) only [upd_same', upd_ne']; rfl
  · simp (disch := omega) only [upd_same', upd_ne']
  · simp (disch := omega) only [upd_same', upd_ne']; rfl
  · simp (disch := omega) only [upd_same', upd_ne']
  obtain ⟨i, y⟩ := t
  simp only at ht ⊢
  obtain ⟨hi, hy, o1, o2, o3, o4, o5, o6⟩ := ht
  (simp -implicitDefEqProofs (disch := omega) only [go_sem, ↓reduceIte])
  ((first | with_reducible apply cnd_c | with_reducible apply grd_c | with_reducible apply pck_c) <;> intro hlt <;> (try rewrite [hlt]) <;> try simp only [wdw] at hlt)
  · have hie : i = p.length := by omega
    subst hie
    rw [List.take_of_length_le (Nat.le_refl _), hP] at o3 o5
    (repeat' (first | simp -implicitDefEqProofs (disch := omega) only [go_sem, ↓reduceIte, o1] | (((first | with_reducible apply cnd_c | with_reducible apply grd_c | with_reducible apply pck_c) <;> intro wh <;> (try rewrite [wh]) <;> try simp only [wdw] at wh) <;> (try (revert wh; intro _)) <;> try (exfalso; omega)) | refine andi ?_ | fail))
    refine loop_o (fun t : Nat × (Int × Int) × Nat => ofL [(1, .ptr n 0), (2, .ptr (n + 1) 0), (3, .ptr (n + 1 + 1) 0), (4, .ptr (n + 1 + 1 + 1) 0), (5, .ptr (n + 1 + 1 + 1 + 1 + 1) 0), (39, .sl .no 11 (p.map Fn.c)), (40, I p.length), (41, I t.1)]) (fun t => t.2.2) (fun t => p.length - t.1)
      (fun t ob => t.1 ≤ p.length ∧ n + 6 ≤ t.2.2 ∧ bodF (scC p n) (p.drop t.1) t.2.1 = bodF (scC p n) p P.2.2 ∧ ob n = some (.cells [.sl .no 11 (p.map Fn.c)]) ∧ ob (n + 1) = some (.cells [I 0, I 0]) ∧ ob (n + 1 + 1) = some (fltO t.2.1) ∧ ob (n + 1 + 1 + 1) = some (.cells [.fn F_scope_Check_1 [.ptr (n + 1 + 1) 0]]) ∧
        ob (n + 1 + 1 + 1 + 1) = some (.map P.1 P.2.1) ∧ ob (n + 1 + 1 + 1 + 1 + 1) = some (.cells [.map (n + 1 + 1 + 1 + 1)]))
      (0, P.2.2, y) rfl rfl ⟨Nat.zero_le _, by simp only; omega, rfl, ?_, ?_, ?_, ?_, ?_, ?_⟩ fun t ob ht => ?_
    · exact o1
    · simp (disch := omega) only [upd_same', upd_ne', o2]
    · simp (disch := omega) only [upd_same', upd_ne', o3]
    · simp (disch := omega) only [upd_same', upd_ne', o4]
    · simp (disch := omega) only [upd_same', upd_ne', o5]
    · simp (disch := omega) only [upd_same', upd_ne', o6]
    clear o1 o2 o3 o4 o5 o6
    obtain ⟨i, s, y⟩ := t
    simp only at ht ⊢
    obtain ⟨hi, hy, hfin, o1, o2, o3, o4, o5, o6⟩ := ht
    (simp -implicitDefEqProofs (disch := omega) only [go_sem, ↓reduceIte])
    ((first | with_reducible apply cnd_c | with_reducible apply grd_c | with_reducible apply pck_c) <;> intro hlt <;> (try rewrite [hlt]) <;> try simp only [wdw] at hlt)
    · have hie : i = p.length := by omega
      subst hie
      rw [List.drop_eq_nil_of_le (Nat.le_refl _)] at hfin
      simp only [bodF] at hfin
      rw [← hfin]
      (repeat' (first | simp -implicitDefEqProofs (disch := omega) only [go_sem, ↓reduceIte, o1, o2, o3, fltO] | (((first | with_reducible apply cnd_c | with_reducible apply grd_c | with_reducible apply pck_c) <;> intro wh <;> (try rewrite [wh]) <;> try simp only [wdw] at wh) <;> (try (revert wh; intro _)) <;> try (exfalso; omega)) | refine andi ?_ | fail))
    · have hlt : i < p.length := by omega
      rw [List.drop_eq_getElem_cons hlt] at hfin
      simp only [bodF] at hfin
      have hfi := hf _ (List.getElem_mem hlt)
      have hgx := getq hlt
      generalize p[i] = f at *
      (repeat' (first | simp -implicitDefEqProofs (disch := omega) only [go_sem, ↓reduceIte, hgx, Fn.c] | (((first | with_reducible apply cnd_c | with_reducible apply grd_c | with_reducible apply pck_c) <;> intro wh <;> (try rewrite [wh]) <;> try simp only [wdw] at wh) <;> (try (revert wh; intro _)) <;> try (exfalso; omega)) | refine andi ?_ | fail))
      refine loop_o (fun t : Nat × Nat => ofL [(1, .ptr n 0), (2, .ptr (n + 1) 0), (3, .ptr (n + 1 + 1) 0), (4, .ptr (n + 1 + 1 + 1) 0), (5, .ptr (n + 1 + 1 + 1 + 1 + 1) 0), (9, .ptr y 0), (10, .map (y + 1)), (39, .sl .no 11 (p.map Fn.c)), (40, I p.length), (41, I i), (47, .sl .no 3 (f.params.map Pm.c)), (48, I f.params.length), (49, I t.1)]) (fun t => t.2) (fun t => f.params.length - t.1)
        (fun t ob => t.1 ≤ f.params.length ∧ y + 2 ≤ t.2 ∧ ob n = some (.cells [.sl .no 11 (p.map Fn.c)]) ∧ ob (n + 1) = some (.cells [I 0, I 0]) ∧ ob (n + 1 + 1) = some (fltO (parF (f.params.take t.1) ([], (fun _ => 0), s)).2.2) ∧ ob (n + 1 + 1 + 1) = some (.cells [.fn F_scope_Check_1 [.ptr (n + 1 + 1) 0]]) ∧
          ob (n + 1 + 1 + 1 + 1) = some (.map P.1 P.2.1) ∧ ob (n + 1 + 1 + 1 + 1 + 1) = some (.cells [.map (n + 1 + 1 + 1 + 1)]) ∧ ob y = some (.cells f.c) ∧ ob (y + 1) = some (.map (parF (f.params.take t.1) ([], (fun _ => 0), s)).1 (parF (f.params.take t.1) ([], (fun _ => 0), s)).2.1))
        (0, y + 1 + 1) rfl rfl ⟨Nat.zero_le _, by simp only; omega, ?_, ?_, ?_, ?_, ?_, ?_, ?_, ?_⟩ fun t ob ht => ?_
      · simp (disch := omega) only [upd_same', upd_ne', o1]
      · simp (disch := omega) only [upd_same', upd_ne', o2]
      · simp (disch := omega) only [upd_same', upd_ne', o3]; rfl
      · simp (disch := omega) only [upd_same', upd_ne', o4]
      · simp (disch := omega) only [upd_same', upd_ne', o5]
      · simp (disch := omega) only [upd_same', upd_ne', o6]
      · simp (disch := omega) only [upd_same', upd_ne']; rfl
      · simp (disch := omega) only [upd_same', upd_ne']; rfl
      clear o1 o2 o3 o4 o5 o6
      obtain ⟨j, z⟩ := t
      simp only at ht ⊢
      obtain ⟨hj, hz, o1, o2, o3, o4, o5, o6, o7, o8⟩ := ht
      (simp -implicitDefEqProofs (disch := omega) only [go_sem, ↓reduceIte])
      ((first | with_reducible apply cnd_c | with_reducible apply grd_c | with_reducible apply pck_c) <;> intro hjl <;> (try rewrite [hjl]) <;> try simp only [wdw] at hjl)
      · have hje : j = f.params.length := by omega
        subst hje
        rw [List.take_of_length_le (Nat.le_refl _)] at o3 o8
        have hbd := parF_bd f.params ([], (fun _ => 0), s)
        generalize parF f.params ([], (fun _ => 0), s) = Q at *
        have hw := scope_walk_spec (scC p n) (y + 1) z ⟨by simp only [hCC]; omega, by simp only [hCC]; omega, by simp only [hCC]; omega, by simp only [hCC]; omega, by simp only [hCC]; omega, by omega, by simp only [hCC]; omega, fun k => by
          have := hpb k
          simp only [hCC]
          omega⟩ f.body.sz f.body (Nat.le_refl _) z (Nat.le_refl _) Q.1 Q.2.1 Q.2.2 (fun k => by have := hbd k; simp only at this; omega)
        generalize walkF (scC p n) f.body Q.2.1 (Q.1, Q.2.2) = r at *
        simp only [hCC] at hw
        (repeat' (first | simp -implicitDefEqProofs (disch := omega) only [go_sem, ↓reduceIte, o7, Fn.c] | (((first | with_reducible apply cnd_c | with_reducible apply grd_c | with_reducible apply pck_c) <;> intro wh <;> (try rewrite [wh]) <;> try simp only [wdw] at wh) <;> (try (revert wh; intro _)) <;> try (exfalso; omega)) | refine andi ?_ | fail))
        rw [← Ex.c_eq f.body]
        refine ecall_l hw rfl (by simp (disch := omega) only [scL, List.forall_mem_cons, List.not_mem_nil, false_imp_iff, implies_true, and_true, o1, o2, o3, o4, o5, o6, o7, o8]) (by simp only [scL, List.forall_mem_cons, List.not_mem_nil, false_imp_iff, implies_true, and_true]; omega) ?_
        (repeat' (first | simp -implicitDefEqProofs (disch := omega) only [go_sem, ↓reduceIte] | (((first | with_reducible apply cnd_c | with_reducible apply grd_c | with_reducible apply pck_c) <;> intro wh <;> (try rewrite [wh]) <;> try simp only [wdw] at wh) <;> (try (revert wh; intro _)) <;> try (exfalso; omega)) | refine andi ?_ | fail))
        refine ⟨(i + 1, r.2, z), ?_, by simp only; omega, rfl, rfl⟩
        (repeat' with_reducible apply And.intro) <;> first | omega | (simp only; omega) | exact hfin | (simp (disch := omega) only [scL, ov_cons, ov_nil, upd_same', upd_ne', o1, o2, o3, o4, o5, o6]; done)
      · have hjl : j < f.params.length := by omega
        have hsn := parF_snoc (f.params.take j) ([], (fun _ => 0), s) f.params[j]
        rw [take_snoc hjl] at hsn
        have hbd := parF_bd (f.params.take j) ([], (fun _ => 0), s)
        have htl : (f.params.take j).length = j := by rw [List.length_take]; omega
        have hgx2 := getq hjl
        generalize parF (f.params.take j) ([], (fun _ => 0), s) = Q at *
        generalize f.params[j] = x at *
        have hb := hbd x.name
        simp only [parF] at hsn hb
        (repeat' (first | simp -implicitDefEqProofs (disch := omega) only [go_sem, ↓reduceIte, hgx2, Pm.c, o4, o8] | (((first | with_reducible apply cnd_c | with_reducible apply grd_c | with_reducible apply pck_c) <;> intro wh <;> (try rewrite [wh]) <;> try simp only [wdw] at wh) <;> (try (revert wh; intro _)) <;> try (exfalso; omega)) | refine andi ?_ | fail))
        · rename_i h0
          rw [if_neg (by omega)] at hsn
          refine ⟨(j + 1, z + 1), ?_, by simp only; omega, rfl, rfl⟩
          (repeat' with_reducible apply And.intro) <;> first | omega | (simp only; omega) | (simp (disch := omega) only [upd_same', upd_ne', o1, o2, o3, o4, o5, o6, o7, hsn, insK]; first | done | rfl)
        · rename_i h0
          rw [if_pos h0] at hsn
          refine ecall_mc (scope_tell Q.2.2 30 x.at_ _ _ (by omega)) ?_ (by omega) ?_
          · simp (disch := omega) only [upd_same', upd_ne', o3]
          · (repeat' (first | simp -implicitDefEqProofs (disch := omega) only [go_sem, ↓reduceIte, o8] | (((first | with_reducible apply cnd_c | with_reducible apply grd_c | with_reducible apply pck_c) <;> intro wh <;> (try rewrite [wh]) <;> try simp only [wdw] at wh) <;> (try (revert wh; intro _)) <;> try (exfalso; omega)) | refine andi ?_ | fail))
            refine ⟨(j + 1, z + 1), ?_, by simp only; omega, rfl, rfl⟩
            (repeat' with_reducible apply And.intro) <;> first | omega | (simp only; omega) | (simp (disch := omega) only [upd_same', upd_ne', o1, o2, o3, o4, o5, o6, o7, hsn, insK]; first | done | rfl)
  · have hlt : i < p.length := by omega
    have hsn := plcF_snoc (p.take i) 0 ([], (fun _ => 0), (0, 0)) p[i]
    have hbd := plcF_bd (p.take i) 0 ([], (fun _ => 0), (0, 0)) (fun k => .inl rfl)
    have htl : (p.take i).length = i := by rw [List.length_take]; omega
    rw [take_snoc hlt, htl] at hsn
    have hgx := getq hlt
    generalize plcF (p.take i) 0 ([], (fun _ => 0), (0, 0)) = Q at *
    generalize p[i] = f at *
    simp only [plcF] at hsn
    (repeat' (first | simp -implicitDefEqProofs (disch := omega) only [go_sem, ↓reduceIte, hgx, Fn.c, o1, o2, o3, o4, o5, o6] | (((first | with_reducible apply cnd_c | with_reducible apply grd_c | with_reducible apply pck_c) <;> intro wh <;> (try rewrite [wh]) <;> try simp only [wdw] at wh) <;> (try (revert wh; intro _)) <;> try (exfalso; omega)) | refine andi ?_ | fail))
    · rename_i h0
      rw [if_neg (by omega)] at hsn
      refine ⟨(i + 1, y + 1), ?_, by simp only; omega, rfl, rfl⟩
      (repeat' with_reducible apply And.intro) <;> first | omega | (simp only; omega) | (simp (disch := omega) only [upd_same', upd_ne', o1, o2, o3, o4, o6, hsn, insK, Nat.zero_add]; done)
    · rename_i h0
      rw [if_pos h0] at hsn
      refine ecall_mc (scope_tell Q.2.2 30 f.at_ _ _ (by omega)) ?_ (by omega) ?_
      · simp (disch := omega) only [upd_same', upd_ne', o3]
      · (repeat' (first | simp -implicitDefEqProofs (disch := omega) only [go_sem, ↓reduceIte] | (((first | with_reducible apply cnd_c | with_reducible apply grd_c | with_reducible apply pck_c) <;> intro wh <;> (try rewrite [wh]) <;> try simp only [wdw] at wh) <;> (try (revert wh; intro _)) <;> try (exfalso; omega)) | refine andi ?_ | fail))
        refine ⟨(i + 1, y + 1), ?_, by simp only; omega, rfl, rfl⟩
        (repeat' with_reducible apply And.intro) <;> first | omega | (simp only; omega) | (simp (disch := omega) only [upd_same', upd_ne', o1, o2, o3, o4, o5, o6, hsn]; done)
end Go.Proofs.Fathom
