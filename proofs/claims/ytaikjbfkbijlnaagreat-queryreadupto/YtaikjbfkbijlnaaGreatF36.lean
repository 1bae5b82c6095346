/- A part of the proof of 'Rows.QueryReadUptoSaid': for every text and every seeds (of bulk at most 1048576 together) fathomlaw19.QueryRead returns true and its arguments read afterwards as before. -/
import Derived.Test.YtaikjbfkbijlnaaGreatF35
set_option linter.unusedVariables false
set_option linter.unusedSimpArgs false
set_option linter.unusedSectionVars false
namespace Go.Proofs.Fathom
open Go Go.Proofs
attribute [local irreducible] PSpec CSpec
section
variable {ms : List Mk} (hm : MsOk ms)
include hm
theorem wk_term {k : Nat} (W : ∀ j, j ≤ k → Wk ms j) (s : Rs) (ha : Ri ms s) (hk : 12 * mu ms s + 5 ≤ k + 1) : MW ms F_fathomref04_reader_term [] s (termR ms (k + 1) s) := by
  have h1 := (W k (Nat.le_refl _)).unit s ha (by omega)
  have g1 := (al hm k).unit s ha.lt (by omega)
  have hml := hm.len
  simp only [termR]
  generalize unitR ms k s = r at *
  obtain ⟨a, s1⟩ := r
  simp only at h1 g1 ⊢
  have m1 : mu ms s1 ≤ mu ms s := g1.1.mu
  have hl : s1.at_ < ms.length := g1.1.lt
  intro n i hi
  refine mspec w_fathomref04_reader_term hi (by simp) (by simp [V.bd, Ex.bd]) ?_
  unfold c_fathomref04_reader_term r_fathomref04_reader_term
  (repeat' (first | simp -implicitDefEqProofs (disch := omega) only [go_sem, ↓reduceIte, Mk.c] | (((first | with_reducible apply cnd_c | with_reducible apply grd_c | with_reducible apply pck_c) <;> intro wh <;> (try rewrite [wh]) <;> try simp only [wdw] at wh) <;> (try (revert wh; intro _)) <;> try (exfalso; omega)) | refine andi ?_ | ((with_reducible refine callM_id ?_); refine callM_i (h1.m (by omega)) ?_) | ((with_reducible refine ecallM_id ?_); refine ecall_ma (h1.m (by omega)) ?_) | fail))
  refine loop_o (fun t : Nat × Ex × Rs × Nat => ofL [(0, .ptr i 0), (2, .ptr n 0), (3, .ptr (n + 1) 0)]) (fun t => t.2.2.2) (fun t => t.1)
    (fun t ob => t.1 ≤ k ∧ 12 * mu ms t.2.2.1 + 1 ≤ t.1 ∧ Ri ms t.2.2.1 ∧ termL ms t.1 t.2.1 t.2.2.1 = termL ms k a s1 ∧ n + 2 ≤ t.2.2.2 ∧ ob i = some (rdO ms t.2.2.1) ∧ ob (n + 1) = some (.cells t.2.1.c) ∧ ob n = some (.cells [.int .i64 0, .str ⟨#[]⟩, .str ⟨#[]⟩, .int .i64 0, .cpx 0 0, .sl .full 7 [], .int .i64 0]))
    (k, a, s1, n + 1 + 1) rfl rfl ⟨Nat.le_refl _, by simp only; omega, ha.step g1.1, rfl, by simp only; omega, ?_, ?_, ?_⟩ fun t ob ht => ?_
  · simp (disch := omega) only [upd_same', upd_ne']
  · simp (disch := omega) only [upd_same', upd_ne']
  · simp (disch := omega) only [upd_same', upd_ne']
  obtain ⟨q, b, t, y⟩ := t
  simp only at ht ⊢
  obtain ⟨hq, hmu, hr, hfin, hy, ho1, ho2, ho3⟩ := ht
  obtain ⟨q, rfl⟩ : ∃ p, q = p + 1 := ⟨q - 1, by omega⟩
  have hl2 := hr.lt
  have hi1 := fun n (hi : i < n) => r_is (n := n) hi hl2 tkMul
  have hi2 := fun n (hi : i < n) => r_is (n := n) hi hl2 tkQuo
  by_cases hb : isB ms t tkMul = true ∨ isB ms t tkQuo = true
  · have hw : t.why = 0 := by rcases hb with hb | hb <;> exact (isB_kind hb).1
    have p1 : Pt ms t (adv t) 1 := by rcases hb with hb | hb <;> exact isB_pt hm hl2 hb
    have m2 := p1.mu1 hw
    have h2 := (W q (by omega)).unit (adv t) (hr.step p1) (by omega)
    have g2 := (al hm q).unit (adv t) p1.lt (by omega)
    have e : termL ms (q + 1) b t = termL ms q (twoE (if (nxt ms t).text = tkQuo then 11 else 10) b (unitR ms q (adv t)).1 (nxt ms t)) (unitR ms q (adv t)).2 := by
      rw [termL, if_pos hb]
    rw [e] at hfin
    generalize unitR ms q (adv t) = c at *
    obtain ⟨c, u⟩ := c
    simp only at h2 g2 hfin ⊢
    have m3 : mu ms u ≤ mu ms (adv t) := g2.1.mu
    have hru : Ri ms u := (hr.step p1).step g2.1
    have hml2 : t.at_ < 32769 := by omega
    cases hb1 : isB ms t tkMul
    · have hb2 : isB ms t tkQuo = true := by simpa [hb1] using hb
      have htx := (isB_kind hb2).2.2
      have htx' : ((nxt ms t).text = ⟨#[47]⟩) = True := eq_true htx
      rw [hb1] at hi1
      rw [hb2] at hi2
      simp only [htx, if_true] at hfin
      (repeat' (first | simp -implicitDefEqProofs (disch := omega) only [go_sem, ↓reduceIte, Mk.c, ho1, ho2, ho3, htx'] | (((first | with_reducible apply cnd_c | with_reducible apply grd_c | with_reducible apply pck_c) <;> intro wh <;> (try rewrite [wh]) <;> try simp only [wdw] at wh) <;> (try (revert wh; intro _)) <;> try (exfalso; omega)) | refine andi ?_ | ((with_reducible refine callM_id ?_); refine callM_i (hi1 _ (by omega)) ?_) | ((with_reducible refine ecallM_id ?_); refine ecall_ma (hi1 _ (by omega)) ?_) | ((with_reducible refine callM_id ?_); refine callM_i (hi2 _ (by omega)) ?_) | ((with_reducible refine ecallM_id ?_); refine ecall_ma (hi2 _ (by omega)) ?_) | ((with_reducible refine callM_id ?_); refine callM_i (r_next (by omega) hl2) ?_) | ((with_reducible refine ecallM_id ?_); refine ecall_ma (r_next (by omega) hl2) ?_) | ((with_reducible refine callM_id ?_); refine callM_i (h2.m (by omega)) ?_) | ((with_reducible refine ecallM_id ?_); refine ecall_ma (h2.m (by omega)) ?_) | ((with_reducible refine callM_id ?_); refine callM_i (fathomref04_two 11 b c (nxt ms t)) ?_) | ((with_reducible refine ecallM_id ?_); refine ecall_ma (fathomref04_two 11 b c (nxt ms t)) ?_) | fail))
      exact ⟨(q, _, u, _), ⟨by simp only; omega, by simp only; omega, hru, hfin, by simp only; omega, rfl, rfl⟩, by simp only; omega, rfl⟩
    · have htx := (isB_kind hb1).2.2
      have htx' : ((nxt ms t).text = ⟨#[47]⟩) = False := eq_false (by rw [htx]; decide)
      have hne' : ¬ tkMul = tkQuo := by decide
      rw [hb1] at hi1
      simp only [htx, if_neg hne'] at hfin
      (repeat' (first | simp -implicitDefEqProofs (disch := omega) only [go_sem, ↓reduceIte, Mk.c, ho1, ho2, ho3, htx'] | (((first | with_reducible apply cnd_c | with_reducible apply grd_c | with_reducible apply pck_c) <;> intro wh <;> (try rewrite [wh]) <;> try simp only [wdw] at wh) <;> (try (revert wh; intro _)) <;> try (exfalso; omega)) | refine andi ?_ | ((with_reducible refine callM_id ?_); refine callM_i (hi1 _ (by omega)) ?_) | ((with_reducible refine ecallM_id ?_); refine ecall_ma (hi1 _ (by omega)) ?_) | ((with_reducible refine callM_id ?_); refine callM_i (r_next (by omega) hl2) ?_) | ((with_reducible refine ecallM_id ?_); refine ecall_ma (r_next (by omega) hl2) ?_) | ((with_reducible refine callM_id ?_); refine callM_i (h2.m (by omega)) ?_) | ((with_reducible refine ecallM_id ?_); refine ecall_ma (h2.m (by omega)) ?_) | ((with_reducible refine callM_id ?_); refine callM_i (fathomref04_two 10 b c (nxt ms t)) ?_) | ((with_reducible refine ecallM_id ?_); refine ecall_ma (fathomref04_two 10 b c (nxt ms t)) ?_) | fail))
      exact ⟨(q, _, u, _), ⟨by simp only; omega, by simp only; omega, hru, hfin, by simp only; omega, rfl, rfl⟩, by simp only; omega, rfl⟩
  · have hb1 : isB ms t tkMul = false := by simpa using fun h => hb (.inl h)
    have hb2 : isB ms t tkQuo = false := by simpa using fun h => hb (.inr h)
    rw [hb1] at hi1
    rw [hb2] at hi2
    have e : termL ms (q + 1) b t = (b, t) := by rw [termL, if_neg hb]
    rw [← hfin, e]
    (repeat' (first | simp -implicitDefEqProofs (disch := omega) only [go_sem, ↓reduceIte, Mk.c, ho1, ho2, ho3] | (((first | with_reducible apply cnd_c | with_reducible apply grd_c | with_reducible apply pck_c) <;> intro wh <;> (try rewrite [wh]) <;> try simp only [wdw] at wh) <;> (try (revert wh; intro _)) <;> try (exfalso; omega)) | refine andi ?_ | ((with_reducible refine callM_id ?_); refine callM_i (hi1 _ (by omega)) ?_) | ((with_reducible refine ecallM_id ?_); refine ecall_ma (hi1 _ (by omega)) ?_) | ((with_reducible refine callM_id ?_); refine callM_i (hi2 _ (by omega)) ?_) | ((with_reducible refine ecallM_id ?_); refine ecall_ma (hi2 _ (by omega)) ?_) | fail))
    omega
theorem wk_named {k : Nat} (W : ∀ j, j ≤ k → Wk ms j) (s : Rs) (m : Mk) (ha : Ri ms s) (hk : 12 * mu ms s + 1 ≤ k + 1) : MW ms F_fathomref04_reader_named [.agg m.c] s (namedR ms (k + 1) s m) := by
  have hml := hm.len
  have hl := ha.lt
  intro n i hi
  refine mspec w_fathomref04_reader_named hi (by simp) (by simp [V.bd, Ex.bd]) ?_
  unfold c_fathomref04_reader_named r_fathomref04_reader_named
  have ht := fun n (hi : i < n) => r_take hm (n := n) hi hl tkOp
  simp only [namedR]
  cases hb : isB ms s tkOp <;> simp only [takeR, hb, if_true, if_false, Bool.false_eq_true] at ht ⊢
  · (repeat' (first | simp -implicitDefEqProofs (disch := omega) only [go_sem, ↓reduceIte, Mk.c] | (((first | with_reducible apply cnd_c | with_reducible apply grd_c | with_reducible apply pck_c) <;> intro wh <;> (try rewrite [wh]) <;> try simp only [wdw] at wh) <;> (try (revert wh; intro _)) <;> try (exfalso; omega)) | refine andi ?_ | ((with_reducible refine callM_id ?_); refine callM_i (ht _ (by omega)) ?_) | ((with_reducible refine ecallM_id ?_); refine ecall_ma (ht _ (by omega)) ?_) | fail))
    simp [Ex.c, Ex.cs, tkNo]
  · have pt := isB_pt hm hl hb
    have mt := pt.mu1 (isB_kind hb).1
    (repeat' (first | simp -implicitDefEqProofs (disch := omega) only [go_sem, ↓reduceIte, Mk.c] | (((first | with_reducible apply cnd_c | with_reducible apply grd_c | with_reducible apply pck_c) <;> intro wh <;> (try rewrite [wh]) <;> try simp only [wdw] at wh) <;> (try (revert wh; intro _)) <;> try (exfalso; omega)) | refine andi ?_ | ((with_reducible refine callM_id ?_); refine callM_i (ht _ (by omega)) ?_) | ((with_reducible refine ecallM_id ?_); refine ecall_ma (ht _ (by omega)) ?_) | fail))
    refine loop_o (fun t : Nat × List Ex × Tok × Rs × Nat => ofL [(0, .ptr i 0), (4, .ptr n 0), (5, .ptr (n + 1) 0)]) (fun t => t.2.2.2.2) (fun t => t.1)
      (fun t ob => t.1 ≤ k ∧ 12 * mu ms t.2.2.2.1 + 10 ≤ t.1 ∧ Ri ms t.2.2.2.1 ∧ namedL ms t.1 t.2.1 t.2.2.2.1 = namedL ms k [] (adv s) ∧ n + 2 ≤ t.2.2.2.2 ∧ t.2.1.length ≤ 32770 ∧ (t.2.2.2.1.why = 0 → t.2.1.length ≤ t.2.2.2.1.at_) ∧ ob i = some (rdO ms t.2.2.2.1) ∧
        ob (n + 1) = some (.cells [.int .i64 7, .str m.text, .str ⟨#[]⟩, .int .i64 0, .cpx 0 0, .sl t.2.2.1 7 (Ex.cs t.2.1), .int .i64 m.at_]) ∧ ob n = some (.cells [.int .i64 0, .str ⟨#[]⟩, .str ⟨#[]⟩, .int .i64 0, .cpx 0 0, .sl .full 7 [], .int .i64 0]) ∧ ((t.2.1 = [] ∧ t.2.2.1 = .full) ∨ ∃ w, 0 < t.2.1.length ∧ t.2.2.1 = .tip w ∧ ob w = some (.tip 7 t.2.1.length) ∧ n + 2 ≤ w ∧ w < t.2.2.2.2))
      (k, [], .full, adv s, n + 1 + 1) rfl rfl ⟨Nat.le_refl _, by simp only; omega, ha.step pt, rfl, by simp only; omega, by simp, by simp, ?_, ?_, ?_, .inl ⟨rfl, rfl⟩⟩ fun t ob ht => ?_
    · simp (disch := omega) only [upd_same', upd_ne']
    · simp (disch := omega) only [upd_same', upd_ne', Ex.cs]
    · simp (disch := omega) only [upd_same', upd_ne']
    obtain ⟨q, l, tok, t, y⟩ := t
    simp only at ht ⊢
    obtain ⟨hq, hmu, hr, hfin, hy, hll, hlw, ho1, ho2, ho3, hor⟩ := ht
    obtain ⟨q, rfl⟩ : ∃ p, q = p + 1 := ⟨q - 1, by omega⟩
    have hl2 := hr.lt
    have hi1 := fun n (hi : i < n) => r_is (n := n) hi hl2 tkCl
    by_cases hc : t.why = 0 ∧ isB ms t tkCl = false
    · obtain ⟨hw, hb1⟩ := hc
      rw [hb1] at hi1
      have hlw := hlw hw
      have p1 : Pt ms t (if l.length = 0 then t else wantR ms t tkCom) 0 := by
        split
        · exact Pt.refl hl2
        · exact (want_pt hm hl2 _).mono (by omega)
      have m1 := p1.mu
      have h2 := (W q (by omega)).expr _ (hr.step p1) (by omega)
      have g2 := (al hm q).expr _ p1.lt (by omega)
      have m2 := (p1.trans g2.1).mu1 hw
      have hru := (hr.step p1).step g2.1
      have hlw2 : (exprR ms q (if l.length = 0 then t else wantR ms t tkCom)).2.why = 0 → l.length + 1 ≤ (exprR ms q (if l.length = 0 then t else wantR ms t tkCom)).2.at_ := fun w => by
        have := ((p1.trans g2.1).ad w).2
        omega
      have e : namedL ms (q + 1) l t = namedL ms q (l ++ [(exprR ms q (if l.length = 0 then t else wantR ms t tkCom)).1]) (exprR ms q (if l.length = 0 then t else wantR ms t tkCom)).2 := by
        rw [namedL, if_pos ⟨hw, hb1⟩]
      rw [e] at hfin
      have hcs : ∀ x, Ex.cs l ++ [Ex.c x] = Ex.cs (l ++ [x]) := fun x => by simp [Ex.cs_eq]
      have hw2 := fun n (hi : i < n) => r_want hm (n := n) hi hl2 tkCom
      rcases hor with ⟨hle, htk⟩ | ⟨w, hl0, htk, ho4, hw1, hw3⟩
      · subst hle htk
        simp only [List.length_nil, if_true] at *
        generalize exprR ms q t = c at *
        obtain ⟨c, u⟩ := c
        simp only at h2 g2 hfin m2 hru hlw2
        (repeat' (first | simp -implicitDefEqProofs (disch := omega) only [go_sem, ↓reduceIte, Mk.c, ho1, ho2, ho3, hw, Ex.cs] | (((first | with_reducible apply cnd_c | with_reducible apply grd_c | with_reducible apply pck_c) <;> intro wh <;> (try rewrite [wh]) <;> try simp only [wdw] at wh) <;> (try (revert wh; intro _)) <;> try (exfalso; omega)) | refine andi ?_ | ((with_reducible refine callM_id ?_); refine callM_i (hi1 _ (by omega)) ?_) | ((with_reducible refine ecallM_id ?_); refine ecall_ma (hi1 _ (by omega)) ?_) | ((with_reducible refine callM_id ?_); refine callM_i (h2.m (by omega)) ?_) | ((with_reducible refine ecallM_id ?_); refine ecall_ma (h2.m (by omega)) ?_) | fail))
        refine ⟨(q, [c], .tip (y + 1), u, y + 1 + 1), ⟨by simp only; omega, by simp only; omega, hru, hfin, by simp only; omega, by simp, hlw2, rfl, by simp [Ex.cs], .inr ⟨y + 1, by simp, rfl, ?_, by omega, by simp only; omega⟩⟩, by simp only; omega, rfl⟩
        simp (disch := omega) only [upd_same', upd_ne']
        rfl
      · subst htk
        have hl0 : ¬ l.length = 0 := by omega
        simp only [if_neg hl0] at *
        generalize exprR ms q (wantR ms t tkCom) = c at *
        obtain ⟨c, u⟩ := c
        simp only at h2 g2 hfin m2 hru hlw2
        (repeat' (first | simp -implicitDefEqProofs (disch := omega) only [go_sem, ↓reduceIte, Mk.c, ho1, ho2, ho3, ho4, hw, hcs] | (((first | with_reducible apply cnd_c | with_reducible apply grd_c | with_reducible apply pck_c) <;> intro wh <;> (try rewrite [wh]) <;> try simp only [wdw] at wh) <;> (try (revert wh; intro _)) <;> try (exfalso; omega)) | refine andi ?_ | ((with_reducible refine callM_id ?_); refine callM_i (hi1 _ (by omega)) ?_) | ((with_reducible refine ecallM_id ?_); refine ecall_ma (hi1 _ (by omega)) ?_) | ((with_reducible refine callM_id ?_); refine callM_i (hw2 _ (by omega)) ?_) | ((with_reducible refine ecallM_id ?_); refine ecall_ma (hw2 _ (by omega)) ?_) | ((with_reducible refine callM_id ?_); refine callM_i (h2.m (by omega)) ?_) | ((with_reducible refine ecallM_id ?_); refine ecall_ma (h2.m (by omega)) ?_) | fail))
        refine ⟨(q, l ++ [c], .tip w, u, y + 1), ⟨by simp only; omega, by simp only; omega, hru, hfin, by simp only; omega, by simp; omega, by simp; exact hlw2, rfl, by simp [Ex.cs], .inr ⟨w, by simp, rfl, ?_, by omega, by simp only; omega⟩⟩, by simp only; omega, rfl⟩
        simp (disch := omega) only [upd_same', upd_ne']
        simp
    · have e : namedL ms (q + 1) l t = (l, t) := by rw [namedL, if_neg hc]
      rw [← hfin, e]
      have hw2 := fun n (hi : i < n) => r_want hm (n := n) hi hl2 tkCl
      by_cases hw : t.why = 0
      · have hb1 : isB ms t tkCl = true := by simpa [hw] using hc
        rw [hb1] at hi1
        (repeat' (first | simp -implicitDefEqProofs (disch := omega) only [go_sem, ↓reduceIte, Mk.c, ho1, ho2, ho3, hw] | (((first | with_reducible apply cnd_c | with_reducible apply grd_c | with_reducible apply pck_c) <;> intro wh <;> (try rewrite [wh]) <;> try simp only [wdw] at wh) <;> (try (revert wh; intro _)) <;> try (exfalso; omega)) | refine andi ?_ | ((with_reducible refine callM_id ?_); refine callM_i (hi1 _ (by omega)) ?_) | ((with_reducible refine ecallM_id ?_); refine ecall_ma (hi1 _ (by omega)) ?_) | ((with_reducible refine callM_id ?_); refine callM_i (hw2 _ (by omega)) ?_) | ((with_reducible refine ecallM_id ?_); refine ecall_ma (hw2 _ (by omega)) ?_) | fail))
        exact ⟨by simp [Ex.c, tkNo], by omega⟩
      · (repeat' (first | simp -implicitDefEqProofs (disch := omega) only [go_sem, ↓reduceIte, Mk.c, ho1, ho2, ho3] | (((first | with_reducible apply cnd_c | with_reducible apply grd_c | with_reducible apply pck_c) <;> intro wh <;> (try rewrite [wh]) <;> try simp only [wdw] at wh) <;> (try (revert wh; intro _)) <;> try (exfalso; omega)) | refine andi ?_ | ((with_reducible refine callM_id ?_); refine callM_i (hw2 _ (by omega)) ?_) | ((with_reducible refine ecallM_id ?_); refine ecall_ma (hw2 _ (by omega)) ?_) | fail))
        exact ⟨by simp [Ex.c, tkNo], by omega⟩
set_option maxHeartbeats 2000000 in
theorem wk_unit {k : Nat} (W : Wk ms k) (s : Rs) (ha : Ri ms s) (hk : 12 * mu ms s + 4 ≤ k + 1) : MW ms F_fathomref04_reader_unit [] s (unitR ms (k + 1) s) := by
  have hml := hm.len
  have hl := ha.lt
  intro n i hi
  refine mspec w_fathomref04_reader_unit hi (by simp) (by simp [V.bd, Ex.bd]) ?_
  unfold c_fathomref04_reader_unit r_fathomref04_reader_unit
  simp only [unitR]
  by_cases hw : s.why = 0
  · rw [if_neg (by omega)]
    have hw' : (s.why = 0) = True := eq_true hw
    by_cases h2 : (nxt ms s).kind = 2
    · rw [if_pos h2]
      have h2' : ((nxt ms s).kind = 2) = True := eq_true h2
      (repeat' (first | simp -implicitDefEqProofs (disch := omega) only [go_sem, ↓reduceIte, Mk.c, hw', h2'] | (((first | with_reducible apply cnd_c | with_reducible apply grd_c | with_reducible apply pck_c) <;> intro wh <;> (try rewrite [wh]) <;> try simp only [wdw] at wh) <;> (try (revert wh; intro _)) <;> try (exfalso; omega)) | refine andi ?_ | ((with_reducible refine callM_id ?_); refine callM_i (r_next (by omega) hl) ?_) | ((with_reducible refine ecallM_id ?_); refine ecall_ma (r_next (by omega) hl) ?_) | fail))
      exact ⟨by simp [Ex.c, Ex.cs, tkNo], by omega, rfl⟩
    rw [if_neg h2]
    have h2' : ((nxt ms s).kind = 2) = False := eq_false h2
    by_cases h0 : (nxt ms s).kind = 0
    · rw [if_pos h0]
      have h0' : ((nxt ms s).kind = 0) = True := eq_true h0
      have p1 := adv_pt hm hl (show (nxt ms s).kind ≠ 4 by omega)
      have m1 := p1.mu1 hw
      have h3 := W.named (adv s) (nxt ms s) (ha.step p1) (by omega)
      (repeat' (first | simp -implicitDefEqProofs (disch := omega) only [go_sem, ↓reduceIte, Mk.c, hw', h2', h0'] | (((first | with_reducible apply cnd_c | with_reducible apply grd_c | with_reducible apply pck_c) <;> intro wh <;> (try rewrite [wh]) <;> try simp only [wdw] at wh) <;> (try (revert wh; intro _)) <;> try (exfalso; omega)) | refine andi ?_ | ((with_reducible refine callM_id ?_); refine callM_i (r_next (by omega) hl) ?_) | ((with_reducible refine ecallM_id ?_); refine ecall_ma (r_next (by omega) hl) ?_) | ((with_reducible refine callM_id ?_); refine callM_i (h3.m (by omega)) ?_) | ((with_reducible refine ecallM_id ?_); refine ecall_ma (h3.m (by omega)) ?_) | fail))
      omega
    rw [if_neg h0]
    have h0' : ((nxt ms s).kind = 0) = False := eq_false h0
    have ht := fun n (hi : i < n) => r_take hm (n := n) hi hl tkOp
    by_cases hb : isB ms s tkOp = true
    · rw [if_pos hb]
      simp only [takeR, hb, if_true] at ht
      have p1 := isB_pt hm hl hb
      have m1 := p1.mu1 hw
      have h3 := W.expr (adv s) (ha.step p1) (by omega)
      have g3 := (al hm k).expr (adv s) p1.lt (by omega)
      generalize exprR ms k (adv s) = c at *
      obtain ⟨c, u⟩ := c
      have hlu : u.at_ < ms.length := g3.1.lt
      simp only at h3 g3 ⊢
      (repeat' (first | simp -implicitDefEqProofs (disch := omega) only [go_sem, ↓reduceIte, Mk.c, hw', h2', h0'] | (((first | with_reducible apply cnd_c | with_reducible apply grd_c | with_reducible apply pck_c) <;> intro wh <;> (try rewrite [wh]) <;> try simp only [wdw] at wh) <;> (try (revert wh; intro _)) <;> try (exfalso; omega)) | refine andi ?_ | ((with_reducible refine callM_id ?_); refine callM_i (r_next (by omega) hl) ?_) | ((with_reducible refine ecallM_id ?_); refine ecall_ma (r_next (by omega) hl) ?_) | ((with_reducible refine callM_id ?_); refine callM_i (ht _ (by omega)) ?_) | ((with_reducible refine ecallM_id ?_); refine ecall_ma (ht _ (by omega)) ?_) | ((with_reducible refine callM_id ?_); refine callM_i (h3.m (by omega)) ?_) | ((with_reducible refine ecallM_id ?_); refine ecall_ma (h3.m (by omega)) ?_) | ((with_reducible refine callM_id ?_); refine callM_i (r_want hm (by omega) hlu tkCl) ?_) | ((with_reducible refine ecallM_id ?_); refine ecall_ma (r_want hm (by omega) hlu tkCl) ?_) | fail))
      omega
    rw [if_neg hb]
    have hb' : isB ms s tkOp = false := by simpa using hb
    simp only [takeR, hb', if_false, Bool.false_eq_true] at ht
    by_cases h1 : (nxt ms s).kind ≠ 1 ∨ wordI (nxt ms s).text = 0
    · rw [if_pos h1]
      by_cases h11 : (nxt ms s).kind = 1
      · have h1' : ((nxt ms s).kind = 1) = True := eq_true h11
        have hz : wordI (nxt ms s).text = 0 := by simpa [h11] using h1
        (repeat' (first | simp -implicitDefEqProofs (disch := omega) only [go_sem, ↓reduceIte, Mk.c, hw', h2', h0', h1', hz] | (((first | with_reducible apply cnd_c | with_reducible apply grd_c | with_reducible apply pck_c) <;> intro wh <;> (try rewrite [wh]) <;> try simp only [wdw] at wh) <;> (try (revert wh; intro _)) <;> try (exfalso; omega)) | refine andi ?_ | ((with_reducible refine callM_id ?_); refine callM_i (r_next (by omega) hl) ?_) | ((with_reducible refine ecallM_id ?_); refine ecall_ma (r_next (by omega) hl) ?_) | ((with_reducible refine callM_id ?_); refine callM_i (ht _ (by omega)) ?_) | ((with_reducible refine ecallM_id ?_); refine ecall_ma (ht _ (by omega)) ?_) | ((with_reducible refine callM_id ?_); refine callM_i (fathomref04_word _) ?_) | ((with_reducible refine ecallM_id ?_); refine ecall_ma (fathomref04_word _) ?_) | ((with_reducible refine callM_id ?_); refine callM_i (r_fail (by omega) hl 21) ?_) | ((with_reducible refine ecallM_id ?_); refine ecall_ma (r_fail (by omega) hl 21) ?_) | fail))
        exact ⟨by simp [noEx, Ex.c, Ex.cs, tkNo], by omega⟩
      · have h1' : ((nxt ms s).kind = 1) = False := eq_false h11
        (repeat' (first | simp -implicitDefEqProofs (disch := omega) only [go_sem, ↓reduceIte, Mk.c, hw', h2', h0', h1'] | (((first | with_reducible apply cnd_c | with_reducible apply grd_c | with_reducible apply pck_c) <;> intro wh <;> (try rewrite [wh]) <;> try simp only [wdw] at wh) <;> (try (revert wh; intro _)) <;> try (exfalso; omega)) | refine andi ?_ | ((with_reducible refine callM_id ?_); refine callM_i (r_next (by omega) hl) ?_) | ((with_reducible refine ecallM_id ?_); refine ecall_ma (r_next (by omega) hl) ?_) | ((with_reducible refine callM_id ?_); refine callM_i (ht _ (by omega)) ?_) | ((with_reducible refine ecallM_id ?_); refine ecall_ma (ht _ (by omega)) ?_) | ((with_reducible refine callM_id ?_); refine callM_i (r_fail (by omega) hl 21) ?_) | ((with_reducible refine ecallM_id ?_); refine ecall_ma (r_fail (by omega) hl 21) ?_) | fail))
        exact ⟨by simp [noEx, Ex.c, Ex.cs, tkNo], by omega⟩
    rw [if_neg h1]
    have h11 : (nxt ms s).kind = 1 ∧ wordI (nxt ms s).text ≠ 0 := by
      constructor
      · rcases Classical.em ((nxt ms s).kind = 1) with h | h
        · exact h
        · exact absurd (.inl h) h1
      · exact fun h => h1 (.inr h)
    obtain ⟨h11, hwz⟩ := h11
    have h1' : ((nxt ms s).kind = 1) = True := eq_true h11
    have hwz' : (wordI (nxt ms s).text = 0) = False := eq_false hwz
    have p1 := adv_pt hm hl (show (nxt ms s).kind ≠ 4 by omega)
    have m1 := p1.mu1 hw
    have hwi : wordI (nxt ms s).text = 2 ∨ wordI (nxt ms s).text = 3 ∨ wordI (nxt ms s).text = 4 ∨ wordI (nxt ms s).text = 5 ∨ wordI (nxt ms s).text = 14 ∨ wordI (nxt ms s).text = 15 ∨ wordI (nxt ms s).text = 16 ∨ wordI (nxt ms s).text = 17 := by
      revert hwz
      unfold wordI
      repeat' split
      all_goals (intro h; omega)
    have hwd := fathomref04_word (nxt ms s).text
    have p2 := want_pt hm p1.lt tkOp
    have m2 := p2.mu
    have h3 := W.expr (wantR ms (adv s) tkOp) ((ha.step p1).step p2) (by omega)
    have g3 := (al hm k).expr (wantR ms (adv s) tkOp) p2.lt (by omega)
    generalize exprR ms k (wantR ms (adv s) tkOp) = c at *
    obtain ⟨c, u⟩ := c
    have hlu : u.at_ < ms.length := g3.1.lt
    rcases hwi with h | h | h | h | h | h | h | h <;> rw [h] at hwd <;> simp only [h, Int.reduceEq, if_false, if_true, show ((14 : Int) ≤ 2) = False from eq_false (by decide), show ((14 : Int) ≤ 3) = False from eq_false (by decide), show ((14 : Int) ≤ 4) = False from eq_false (by decide), show ((14 : Int) ≤ 14) = True from eq_true (by decide), show ((14 : Int) ≤ 15) = True from eq_true (by decide), show ((14 : Int) ≤ 16) = True from eq_true (by decide), show ((14 : Int) ≤ 17) = True from eq_true (by decide)]
    · (repeat' (first | simp -implicitDefEqProofs (disch := omega) only [go_sem, ↓reduceIte, Mk.c, hw', h2', h0', h1', hwz'] | (((first | with_reducible apply cnd_c | with_reducible apply grd_c | with_reducible apply pck_c) <;> intro wh <;> (try rewrite [wh]) <;> try simp only [wdw] at wh) <;> (try (revert wh; intro _)) <;> try (exfalso; omega)) | refine andi ?_ | ((with_reducible refine callM_id ?_); refine callM_i (r_next (by omega) hl) ?_) | ((with_reducible refine ecallM_id ?_); refine ecall_ma (r_next (by omega) hl) ?_) | ((with_reducible refine callM_id ?_); refine callM_i (ht _ (by omega)) ?_) | ((with_reducible refine ecallM_id ?_); refine ecall_ma (ht _ (by omega)) ?_) | ((with_reducible refine callM_id ?_); refine callM_i hwd ?_) | ((with_reducible refine ecallM_id ?_); refine ecall_ma hwd ?_) | fail))
      exact ⟨by simp [Ex.c, Ex.cs, tkNo], by omega, rfl⟩
    · (repeat' (first | simp -implicitDefEqProofs (disch := omega) only [go_sem, ↓reduceIte, Mk.c, hw', h2', h0', h1', hwz'] | (((first | with_reducible apply cnd_c | with_reducible apply grd_c | with_reducible apply pck_c) <;> intro wh <;> (try rewrite [wh]) <;> try simp only [wdw] at wh) <;> (try (revert wh; intro _)) <;> try (exfalso; omega)) | refine andi ?_ | ((with_reducible refine callM_id ?_); refine callM_i (r_next (by omega) hl) ?_) | ((with_reducible refine ecallM_id ?_); refine ecall_ma (r_next (by omega) hl) ?_) | ((with_reducible refine callM_id ?_); refine callM_i (ht _ (by omega)) ?_) | ((with_reducible refine ecallM_id ?_); refine ecall_ma (ht _ (by omega)) ?_) | ((with_reducible refine callM_id ?_); refine callM_i hwd ?_) | ((with_reducible refine ecallM_id ?_); refine ecall_ma hwd ?_) | fail))
      exact ⟨by simp [Ex.c, Ex.cs, tkNo], by omega, rfl⟩
    · (repeat' (first | simp -implicitDefEqProofs (disch := omega) only [go_sem, ↓reduceIte, Mk.c, hw', h2', h0', h1', hwz'] | (((first | with_reducible apply cnd_c | with_reducible apply grd_c | with_reducible apply pck_c) <;> intro wh <;> (try rewrite [wh]) <;> try simp only [wdw] at wh) <;> (try (revert wh; intro _)) <;> try (exfalso; omega)) | refine andi ?_ | ((with_reducible refine callM_id ?_); refine callM_i (r_next (by omega) hl) ?_) | ((with_reducible refine ecallM_id ?_); refine ecall_ma (r_next (by omega) hl) ?_) | ((with_reducible refine callM_id ?_); refine callM_i (ht _ (by omega)) ?_) | ((with_reducible refine ecallM_id ?_); refine ecall_ma (ht _ (by omega)) ?_) | ((with_reducible refine callM_id ?_); refine callM_i hwd ?_) | ((with_reducible refine ecallM_id ?_); refine ecall_ma hwd ?_) | fail))
      exact ⟨by simp [Ex.c, Ex.cs, tkNo], by omega, rfl⟩
    · (repeat' (first | simp -implicitDefEqProofs (disch := omega) only [go_sem, ↓reduceIte, Mk.c, hw', h2', h0', h1', hwz'] | (((first | with_reducible apply cnd_c | with_reducible apply grd_c | with_reducible apply pck_c) <;> intro wh <;> (try rewrite [wh]) <;> try simp only [wdw] at wh) <;> (try (revert wh; intro _)) <;> try (exfalso; omega)) | refine andi ?_ | ((with_reducible refine callM_id ?_); refine callM_i (r_next (by omega) hl) ?_) | ((with_reducible refine ecallM_id ?_); refine ecall_ma (r_next (by omega) hl) ?_) | ((with_reducible refine callM_id ?_); refine callM_i (ht _ (by omega)) ?_) | ((with_reducible refine ecallM_id ?_); refine ecall_ma (ht _ (by omega)) ?_) | ((with_reducible refine callM_id ?_); refine callM_i hwd ?_) | ((with_reducible refine ecallM_id ?_); refine ecall_ma hwd ?_) | ((with_reducible refine callM_id ?_); refine callM_i (r_typ (s := adv s) hm (by omega) p1.lt) ?_) | ((with_reducible refine ecallM_id ?_); refine ecall_ma (r_typ (s := adv s) hm (by omega) p1.lt) ?_) | fail))
      exact ⟨by simp [Ex.c, Ex.cs, tkNo], by omega⟩
    · (repeat' (first | simp -implicitDefEqProofs (disch := omega) only [go_sem, ↓reduceIte, Mk.c, hw', h2', h0', h1', hwz'] | (((first | with_reducible apply cnd_c | with_reducible apply grd_c | with_reducible apply pck_c) <;> intro wh <;> (try rewrite [wh]) <;> try simp only [wdw] at wh) <;> (try (revert wh; intro _)) <;> try (exfalso; omega)) | refine andi ?_ | ((with_reducible refine callM_id ?_); refine callM_i (r_next (by omega) hl) ?_) | ((with_reducible refine ecallM_id ?_); refine ecall_ma (r_next (by omega) hl) ?_) | ((with_reducible refine callM_id ?_); refine callM_i (ht _ (by omega)) ?_) | ((with_reducible refine ecallM_id ?_); refine ecall_ma (ht _ (by omega)) ?_) | ((with_reducible refine callM_id ?_); refine callM_i hwd ?_) | ((with_reducible refine ecallM_id ?_); refine ecall_ma hwd ?_) | ((with_reducible refine callM_id ?_); refine callM_i (r_want (s := adv s) hm (by omega) p1.lt tkOp) ?_) | ((with_reducible refine ecallM_id ?_); refine ecall_ma (r_want (s := adv s) hm (by omega) p1.lt tkOp) ?_) | ((with_reducible refine callM_id ?_); refine callM_i (h3.m (by omega)) ?_) | ((with_reducible refine ecallM_id ?_); refine ecall_ma (h3.m (by omega)) ?_) | ((with_reducible refine callM_id ?_); refine callM_i (r_want hm (by omega) hlu tkCl) ?_) | ((with_reducible refine ecallM_id ?_); refine ecall_ma (r_want hm (by omega) hlu tkCl) ?_) | fail))
      exact ⟨by simp [Ex.c, Ex.cs, tkNo], by omega⟩
    · (repeat' (first | simp -implicitDefEqProofs (disch := omega) only [go_sem, ↓reduceIte, Mk.c, hw', h2', h0', h1', hwz'] | (((first | with_reducible apply cnd_c | with_reducible apply grd_c | with_reducible apply pck_c) <;> intro wh <;> (try rewrite [wh]) <;> try simp only [wdw] at wh) <;> (try (revert wh; intro _)) <;> try (exfalso; omega)) | refine andi ?_ | ((with_reducible refine callM_id ?_); refine callM_i (r_next (by omega) hl) ?_) | ((with_reducible refine ecallM_id ?_); refine ecall_ma (r_next (by omega) hl) ?_) | ((with_reducible refine callM_id ?_); refine callM_i (ht _ (by omega)) ?_) | ((with_reducible refine ecallM_id ?_); refine ecall_ma (ht _ (by omega)) ?_) | ((with_reducible refine callM_id ?_); refine callM_i hwd ?_) | ((with_reducible refine ecallM_id ?_); refine ecall_ma hwd ?_) | ((with_reducible refine callM_id ?_); refine callM_i (r_want (s := adv s) hm (by omega) p1.lt tkOp) ?_) | ((with_reducible refine ecallM_id ?_); refine ecall_ma (r_want (s := adv s) hm (by omega) p1.lt tkOp) ?_) | ((with_reducible refine callM_id ?_); refine callM_i (h3.m (by omega)) ?_) | ((with_reducible refine ecallM_id ?_); refine ecall_ma (h3.m (by omega)) ?_) | ((with_reducible refine callM_id ?_); refine callM_i (r_want hm (by omega) hlu tkCl) ?_) | ((with_reducible refine ecallM_id ?_); refine ecall_ma (r_want hm (by omega) hlu tkCl) ?_) | fail))
      exact ⟨by simp [Ex.c, Ex.cs, tkNo], by omega⟩
    · (repeat' (first | simp -implicitDefEqProofs (disch := omega) only [go_sem, ↓reduceIte, Mk.c, hw', h2', h0', h1', hwz'] | (((first | with_reducible apply cnd_c | with_reducible apply grd_c | with_reducible apply pck_c) <;> intro wh <;> (try rewrite [wh]) <;> try simp only [wdw] at wh) <;> (try (revert wh; intro _)) <;> try (exfalso; omega)) | refine andi ?_ | ((with_reducible refine callM_id ?_); refine callM_i (r_next (by omega) hl) ?_) | ((with_reducible refine ecallM_id ?_); refine ecall_ma (r_next (by omega) hl) ?_) | ((with_reducible refine callM_id ?_); refine callM_i (ht _ (by omega)) ?_) | ((with_reducible refine ecallM_id ?_); refine ecall_ma (ht _ (by omega)) ?_) | ((with_reducible refine callM_id ?_); refine callM_i hwd ?_) | ((with_reducible refine ecallM_id ?_); refine ecall_ma hwd ?_) | ((with_reducible refine callM_id ?_); refine callM_i (r_want (s := adv s) hm (by omega) p1.lt tkOp) ?_) | ((with_reducible refine ecallM_id ?_); refine ecall_ma (r_want (s := adv s) hm (by omega) p1.lt tkOp) ?_) | ((with_reducible refine callM_id ?_); refine callM_i (h3.m (by omega)) ?_) | ((with_reducible refine ecallM_id ?_); refine ecall_ma (h3.m (by omega)) ?_) | ((with_reducible refine callM_id ?_); refine callM_i (r_want hm (by omega) hlu tkCl) ?_) | ((with_reducible refine ecallM_id ?_); refine ecall_ma (r_want hm (by omega) hlu tkCl) ?_) | fail))
      exact ⟨by simp [Ex.c, Ex.cs, tkNo], by omega⟩
    · (repeat' (first | simp -implicitDefEqProofs (disch := omega) only [go_sem, ↓reduceIte, Mk.c, hw', h2', h0', h1', hwz'] | (((first | with_reducible apply cnd_c | with_reducible apply grd_c | with_reducible apply pck_c) <;> intro wh <;> (try rewrite [wh]) <;> try simp only [wdw] at wh) <;> (try (revert wh; intro _)) <;> try (exfalso; omega)) | refine andi ?_ | ((with_reducible refine callM_id ?_); refine callM_i (r_next (by omega) hl) ?_) | ((with_reducible refine ecallM_id ?_); refine ecall_ma (r_next (by omega) hl) ?_) | ((with_reducible refine callM_id ?_); refine callM_i (ht _ (by omega)) ?_) | ((with_reducible refine ecallM_id ?_); refine ecall_ma (ht _ (by omega)) ?_) | ((with_reducible refine callM_id ?_); refine callM_i hwd ?_) | ((with_reducible refine ecallM_id ?_); refine ecall_ma hwd ?_) | ((with_reducible refine callM_id ?_); refine callM_i (r_want (s := adv s) hm (by omega) p1.lt tkOp) ?_) | ((with_reducible refine ecallM_id ?_); refine ecall_ma (r_want (s := adv s) hm (by omega) p1.lt tkOp) ?_) | ((with_reducible refine callM_id ?_); refine callM_i (h3.m (by omega)) ?_) | ((with_reducible refine ecallM_id ?_); refine ecall_ma (h3.m (by omega)) ?_) | ((with_reducible refine callM_id ?_); refine callM_i (r_want hm (by omega) hlu tkCl) ?_) | ((with_reducible refine ecallM_id ?_); refine ecall_ma (r_want hm (by omega) hlu tkCl) ?_) | fail))
      exact ⟨by simp [Ex.c, Ex.cs, tkNo], by omega⟩
  · rw [if_pos hw]
    (repeat' (first | simp -implicitDefEqProofs (disch := omega) only [go_sem, ↓reduceIte, Mk.c] | (((first | with_reducible apply cnd_c | with_reducible apply grd_c | with_reducible apply pck_c) <;> intro wh <;> (try rewrite [wh]) <;> try simp only [wdw] at wh) <;> (try (revert wh; intro _)) <;> try (exfalso; omega)) | refine andi ?_ | ((with_reducible refine callM_id ?_); refine callM_i (r_next (by omega) hl) ?_) | ((with_reducible refine ecallM_id ?_); refine ecall_ma (r_next (by omega) hl) ?_) | fail))
    exact ⟨by simp [noEx, Ex.c, Ex.cs, tkNo], by omega⟩
end
end Go.Proofs.Fathom
