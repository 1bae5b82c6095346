/- A part of the proof of 'Rows.QueryReadUptoSaid': for every text and every seeds (of bulk at most 1048576 together) fathomlaw19.QueryRead returns true and its arguments read afterwards as before. -/
import Derived.Test.YtaikjbfkbijlnaaGreatF34
set_option linter.unusedVariables false
set_option linter.unusedSimpArgs false
set_option linter.unusedSectionVars false
namespace Go.Proofs.Fathom
open Go Go.Proofs
attribute [local irreducible] PSpec CSpec
theorem Ex.c_len (e : Ex) : e.c.length = 7 := by rw [Ex.c_eq]; rfl
theorem Ex.c_take (e : Ex) : List.take 7 e.c = e.c := List.take_of_length_le (by rw [Ex.c_len]; exact Nat.le_refl _)
theorem Ex.c_un (e : Ex) : List.map V.un1 e.c = e.c := by rw [Ex.c_eq]; simp [V.un1, V.un]
theorem Ex.c_drop (e : Ex) : List.drop 7 e.c = [] := List.drop_eq_nil_of_le (by rw [Ex.c_len]; exact Nat.le_refl _)
attribute [go_sem] Ex.c_len Ex.c_take Ex.c_un Ex.c_drop
/-- The loop rule for a state of which the objects are told by the invariant. -/
theorem loop_o {P : Program} {σ : Type} (sl : σ → Nat → V) (nx m : σ → Nat) (inv : σ → Obs → Prop) (s0 : σ) {a : ACode} {K : AExit → St → Prop} {sl0 : Nat → V} {ob0 : Obs} {nx0 nt bs : Nat} (h0 : sl0 = sl s0) (h1 : nx0 = nx s0) (hi : inv s0 ob0)
    (h : ∀ s ob, inv s ob → awp P a (lpK (fun S' => ∃ s', inv s' S'.ob ∧ m s' < m s ∧ S'.sl = sl s' ∧ S'.nx = nx s' ∧ S'.nt = nt ∧ S'.bs = bs) K) ⟨sl s, ob, nx s, nt, bs⟩) : awp P (.loop a) K ⟨sl0, ob0, nx0, nt, bs⟩ := by
  subst h0 h1
  refine loop_rule (fun t : σ × Obs => ⟨sl t.1, t.2, nx t.1, nt, bs⟩) (fun t => m t.1) (fun t => inv t.1 t.2) (s0, ob0) rfl hi fun t ht => ?_
  have := h t.1 t.2 ht
  have e : (fun S' : St => ∃ s', inv s' S'.ob ∧ m s' < m t.1 ∧ S'.sl = sl s' ∧ S'.nx = nx s' ∧ S'.nt = nt ∧ S'.bs = bs) = fun S' => ∃ s' : σ × Obs, inv s'.1 s'.2 ∧ m s'.1 < m t.1 ∧ S' = ⟨sl s'.1, s'.2, nx s'.1, nt, bs⟩ := by
    funext S'
    obtain ⟨a, b, c, d, e⟩ := S'
    refine propext ⟨fun ⟨s', g1, g2, g3, g4, g5, g6⟩ => ⟨(s', b), g1, g2, ?_⟩, fun ⟨s', g1, g2, g3⟩ => ?_⟩
    · simp only at g3 g4 g5 g6
      subst g3 g4 g5 g6
      rfl
    · simp only [St.mk.injEq] at g3
      obtain ⟨g3, g4, g5, g6, g7⟩ := g3
      subst g3 g4 g5 g6 g7
      exact ⟨s'.1, g1, g2, rfl, rfl, rfl, rfl⟩
  rw [e] at this
  exact this
structure Ri (ms : List Mk) (s : Rs) : Prop where
  lt : s.at_ < ms.length
  n0 : 0 ≤ s.nest
  n1 : s.nest ≤ 32768
theorem Ri.step {ms : List Mk} {s t : Rs} {d : Nat} (h : Ri ms s) (p : Pt ms s t d) : Ri ms t := ⟨p.lt, by rw [p.nest]; exact h.n0, by rw [p.nest]; exact h.n1⟩
/-- A parsing method's walk. -/
def MW (ms : List Mk) (f : FuncId) (args : List V) (s : Rs) (r : Ex × Rs) : Prop := ∀ n i, i < n → CS f (.ptr i 0 :: args) [(i, rdO ms s)] n (.agg r.1.c) [(i, rdO ms r.2)] n
theorem MW.m {ms : List Mk} {f : FuncId} {args : List V} {s : Rs} {r : Ex × Rs} (h : MW ms f args s r) {n i : Nat} (hi : i < n) : CS f (.ptr i 0 :: args) [(i, rdO ms s)] n (.agg r.1.c) [(i, rdO ms r.2)] n := h n i hi
structure Wk (ms : List Mk) (k : Nat) : Prop where
  expr : ∀ s, Ri ms s → 12 * mu ms s + 9 ≤ k → MW ms F_fathomref04_reader_expr [] s (exprR ms k s)
  parts : ∀ s l, l.length ≤ 3 → Ri ms s → 12 * mu ms s + 9 + l.length ≤ k → ∀ q n i, i < n → CS F_fathomref04_reader_parts [.ptr i 0, .sl q 1 (strs l)] [(i, rdO ms s)] n (.sl .no 7 (Ex.cs (partsR ms k s l).1)) [(i, rdO ms (partsR ms k s l).2)] n
  cons : ∀ s, Ri ms s → 12 * mu ms s + 8 ≤ k → MW ms F_fathomref04_reader_cons [] s (consR ms k s)
  comp : ∀ s, Ri ms s → 12 * mu ms s + 7 ≤ k → MW ms F_fathomref04_reader_comp [] s (compR ms k s)
  sum : ∀ s, Ri ms s → 12 * mu ms s + 6 ≤ k → MW ms F_fathomref04_reader_sum [] s (sumR ms k s)
  term : ∀ s, Ri ms s → 12 * mu ms s + 5 ≤ k → MW ms F_fathomref04_reader_term [] s (termR ms k s)
  unit : ∀ s, Ri ms s → 12 * mu ms s + 4 ≤ k → MW ms F_fathomref04_reader_unit [] s (unitR ms k s)
  named : ∀ s m, Ri ms s → 12 * mu ms s + 1 ≤ k → MW ms F_fathomref04_reader_named [.agg m.c] s (namedR ms k s m)
theorem fathomref04_two (op : Int) (a b : Ex) (m : Mk) : PS F_fathomref04_two [I op, .agg a.c, .agg b.c, .agg m.c] (.agg (twoE op a b m).c) := by
  refine pspec' mixed w_fathomref04_two (by simp) (by simp [V.bd, Ex.bd]) fun n => ?_
  unfold c_fathomref04_two r_fathomref04_two
  (repeat' (first | simp -implicitDefEqProofs (disch := omega) only [go_sem, ↓reduceIte, Mk.c] | (((first | with_reducible apply cnd_c | with_reducible apply grd_c | with_reducible apply pck_c) <;> intro wh <;> (try rewrite [wh]) <;> try simp only [wdw] at wh) <;> (try (revert wh; intro _)) <;> try (exfalso; omega)) | refine andi ?_ | fail))
  simp [twoE, Ex.c, Ex.cs, tkNo]
theorem fathomref04_word (x : ByteArray) : PS F_fathomref04_word [.str x] (I (wordI x)) := by
  (refine pspec' mixed w_fathomref04_word (by simp) (by first | rfl | simp [V.bd, bds, bdss]) fun _ => ?_; unfold c_fathomref04_word r_fathomref04_word)
  (repeat' (first | simp -implicitDefEqProofs (disch := omega) only [go_sem, ↓reduceIte] | (((first | with_reducible apply cnd_c | with_reducible apply grd_c | with_reducible apply pck_c) <;> intro wh <;> (try rewrite [wh]) <;> try simp only [wdw] at wh) <;> (try (revert wh; intro _)) <;> try (exfalso; omega)) | refine andi ?_ | fail))
  all_goals first
    | (rename_i h; subst h; rfl)
    | (unfold wordI; simp only [*, if_false])
section
variable {ms : List Mk} (hm : MsOk ms)
include hm
theorem wk_cons {k : Nat} (W : Wk ms k) (s : Rs) (ha : Ri ms s) (hk : 12 * mu ms s + 8 ≤ k + 1) : MW ms F_fathomref04_reader_cons [] s (consR ms (k + 1) s) := by
  have h1 := W.comp s ha (by omega)
  have g1 := (al hm k).comp s ha.lt (by omega)
  have W2 := W.cons
  have hml := hm.len
  simp only [consR]
  generalize compR ms k s = r at *
  obtain ⟨a, s1⟩ := r
  simp only at h1 g1 ⊢
  have m1 : mu ms s1 ≤ mu ms s := g1.1.mu
  have hl : s1.at_ < ms.length := g1.1.lt
  intro n i hi
  refine mspec w_fathomref04_reader_cons hi (by simp) (by simp [V.bd, Ex.bd]) ?_
  unfold c_fathomref04_reader_cons r_fathomref04_reader_cons
  have ht := fun n (hi : i < n) => r_take hm (n := n) hi hl tkCol
  cases hb : isB ms s1 tkCol <;> simp only [takeR, hb, if_true, if_false, Bool.false_eq_true] at ht ⊢
  · (repeat' (first | simp -implicitDefEqProofs (disch := omega) only [go_sem, ↓reduceIte, Mk.c] | (((first | with_reducible apply cnd_c | with_reducible apply grd_c | with_reducible apply pck_c) <;> intro wh <;> (try rewrite [wh]) <;> try simp only [wdw] at wh) <;> (try (revert wh; intro _)) <;> try (exfalso; omega)) | refine andi ?_ | ((with_reducible refine callM_id ?_); refine callM_i (h1.m (by omega)) ?_) | ((with_reducible refine ecallM_id ?_); refine ecall_ma (h1.m (by omega)) ?_) | ((with_reducible refine callM_id ?_); refine callM_i (r_next (by omega) hl) ?_) | ((with_reducible refine ecallM_id ?_); refine ecall_ma (r_next (by omega) hl) ?_) | ((with_reducible refine callM_id ?_); refine callM_i (ht _ (by omega)) ?_) | ((with_reducible refine ecallM_id ?_); refine ecall_ma (ht _ (by omega)) ?_) | fail))
    omega
  · have pt := isB_pt hm hl hb
    have mt := pt.mu1 (isB_kind hb).1
    have h2 := W2 (adv s1) ((ha.step g1.1).step pt) (by omega)
    (repeat' (first | simp -implicitDefEqProofs (disch := omega) only [go_sem, ↓reduceIte, Mk.c] | (((first | with_reducible apply cnd_c | with_reducible apply grd_c | with_reducible apply pck_c) <;> intro wh <;> (try rewrite [wh]) <;> try simp only [wdw] at wh) <;> (try (revert wh; intro _)) <;> try (exfalso; omega)) | refine andi ?_ | ((with_reducible refine callM_id ?_); refine callM_i (h1.m (by omega)) ?_) | ((with_reducible refine ecallM_id ?_); refine ecall_ma (h1.m (by omega)) ?_) | ((with_reducible refine callM_id ?_); refine callM_i (r_next (by omega) hl) ?_) | ((with_reducible refine ecallM_id ?_); refine ecall_ma (r_next (by omega) hl) ?_) | ((with_reducible refine callM_id ?_); refine callM_i (ht _ (by omega)) ?_) | ((with_reducible refine ecallM_id ?_); refine ecall_ma (ht _ (by omega)) ?_) | ((with_reducible refine callM_id ?_); refine callM_i (h2.m (by omega)) ?_) | ((with_reducible refine ecallM_id ?_); refine ecall_ma (h2.m (by omega)) ?_) | ((with_reducible refine callM_id ?_); refine callM_i (fathomref04_two 18 _ _ _) ?_) | ((with_reducible refine ecallM_id ?_); refine ecall_ma (fathomref04_two 18 _ _ _) ?_) | fail))
    omega
theorem wk_comp {k : Nat} (W : Wk ms k) (s : Rs) (ha : Ri ms s) (hk : 12 * mu ms s + 7 ≤ k + 1) : MW ms F_fathomref04_reader_comp [] s (compR ms (k + 1) s) := by
  have h1 := W.sum s ha (by omega)
  have g1 := (al hm k).sum s ha.lt (by omega)
  have W2 := W.sum
  have hml := hm.len
  simp only [compR]
  generalize sumR ms k s = r at *
  obtain ⟨a, s1⟩ := r
  simp only at h1 g1 ⊢
  have m1 : mu ms s1 ≤ mu ms s := g1.1.mu
  have hl : s1.at_ < ms.length := g1.1.lt
  intro n i hi
  refine mspec w_fathomref04_reader_comp hi (by simp) (by simp [V.bd, Ex.bd]) ?_
  unfold c_fathomref04_reader_comp r_fathomref04_reader_comp
  have hi2 := fun n (hi : i < n) => r_is (n := n) hi hl tkLt
  have ht := fun n (hi : i < n) => r_take hm (n := n) hi hl tkEq
  have ht2 := fun n (hi : i < n) => r_take hm (n := n) hi hl tkLt
  cases hb : isB ms s1 tkEq
  · cases hb2 : isB ms s1 tkLt
    · simp only [takeR, hb, hb2, if_true, if_false, Bool.false_eq_true, or_self] at hi2 ht ht2 ⊢
      (repeat' (first | simp -implicitDefEqProofs (disch := omega) only [go_sem, ↓reduceIte, Mk.c] | (((first | with_reducible apply cnd_c | with_reducible apply grd_c | with_reducible apply pck_c) <;> intro wh <;> (try rewrite [wh]) <;> try simp only [wdw] at wh) <;> (try (revert wh; intro _)) <;> try (exfalso; omega)) | refine andi ?_ | ((with_reducible refine callM_id ?_); refine callM_i (h1.m (by omega)) ?_) | ((with_reducible refine ecallM_id ?_); refine ecall_ma (h1.m (by omega)) ?_) | ((with_reducible refine callM_id ?_); refine callM_i (r_next (by omega) hl) ?_) | ((with_reducible refine ecallM_id ?_); refine ecall_ma (r_next (by omega) hl) ?_) | ((with_reducible refine callM_id ?_); refine callM_i (hi2 _ (by omega)) ?_) | ((with_reducible refine ecallM_id ?_); refine ecall_ma (hi2 _ (by omega)) ?_) | ((with_reducible refine callM_id ?_); refine callM_i (ht _ (by omega)) ?_) | ((with_reducible refine ecallM_id ?_); refine ecall_ma (ht _ (by omega)) ?_) | ((with_reducible refine callM_id ?_); refine callM_i (ht2 _ (by omega)) ?_) | ((with_reducible refine ecallM_id ?_); refine ecall_ma (ht2 _ (by omega)) ?_) | fail))
      omega
    · simp only [takeR, hb, hb2, if_true, if_false, Bool.false_eq_true, false_or] at hi2 ht ht2 ⊢
      have pt := isB_pt hm hl hb2
      have mt := pt.mu1 (isB_kind hb2).1
      have h2 := W2 (adv s1) ((ha.step g1.1).step pt) (by omega)
      (repeat' (first | simp -implicitDefEqProofs (disch := omega) only [go_sem, ↓reduceIte, Mk.c] | (((first | with_reducible apply cnd_c | with_reducible apply grd_c | with_reducible apply pck_c) <;> intro wh <;> (try rewrite [wh]) <;> try simp only [wdw] at wh) <;> (try (revert wh; intro _)) <;> try (exfalso; omega)) | refine andi ?_ | ((with_reducible refine callM_id ?_); refine callM_i (h1.m (by omega)) ?_) | ((with_reducible refine ecallM_id ?_); refine ecall_ma (h1.m (by omega)) ?_) | ((with_reducible refine callM_id ?_); refine callM_i (r_next (by omega) hl) ?_) | ((with_reducible refine ecallM_id ?_); refine ecall_ma (r_next (by omega) hl) ?_) | ((with_reducible refine callM_id ?_); refine callM_i (hi2 _ (by omega)) ?_) | ((with_reducible refine ecallM_id ?_); refine ecall_ma (hi2 _ (by omega)) ?_) | ((with_reducible refine callM_id ?_); refine callM_i (ht _ (by omega)) ?_) | ((with_reducible refine ecallM_id ?_); refine ecall_ma (ht _ (by omega)) ?_) | ((with_reducible refine callM_id ?_); refine callM_i (ht2 _ (by omega)) ?_) | ((with_reducible refine ecallM_id ?_); refine ecall_ma (ht2 _ (by omega)) ?_) | ((with_reducible refine callM_id ?_); refine callM_i (h2.m (by omega)) ?_) | ((with_reducible refine ecallM_id ?_); refine ecall_ma (h2.m (by omega)) ?_) | ((with_reducible refine callM_id ?_); refine callM_i (fathomref04_two 13 _ _ _) ?_) | ((with_reducible refine ecallM_id ?_); refine ecall_ma (fathomref04_two 13 _ _ _) ?_) | fail))
      omega
  · have hb2 : isB ms s1 tkLt = false := by
      cases h : isB ms s1 tkLt
      · rfl
      · have := (isB_kind hb).2.2
        rw [(isB_kind h).2.2] at this
        exact absurd this (by decide)
    simp only [takeR, hb, hb2, if_true, if_false, Bool.false_eq_true, or_false] at hi2 ht ht2 ⊢
    have pt := isB_pt hm hl hb
    have mt := pt.mu1 (isB_kind hb).1
    have h2 := W2 (adv s1) ((ha.step g1.1).step pt) (by omega)
    (repeat' (first | simp -implicitDefEqProofs (disch := omega) only [go_sem, ↓reduceIte, Mk.c] | (((first | with_reducible apply cnd_c | with_reducible apply grd_c | with_reducible apply pck_c) <;> intro wh <;> (try rewrite [wh]) <;> try simp only [wdw] at wh) <;> (try (revert wh; intro _)) <;> try (exfalso; omega)) | refine andi ?_ | ((with_reducible refine callM_id ?_); refine callM_i (h1.m (by omega)) ?_) | ((with_reducible refine ecallM_id ?_); refine ecall_ma (h1.m (by omega)) ?_) | ((with_reducible refine callM_id ?_); refine callM_i (r_next (by omega) hl) ?_) | ((with_reducible refine ecallM_id ?_); refine ecall_ma (r_next (by omega) hl) ?_) | ((with_reducible refine callM_id ?_); refine callM_i (hi2 _ (by omega)) ?_) | ((with_reducible refine ecallM_id ?_); refine ecall_ma (hi2 _ (by omega)) ?_) | ((with_reducible refine callM_id ?_); refine callM_i (ht _ (by omega)) ?_) | ((with_reducible refine ecallM_id ?_); refine ecall_ma (ht _ (by omega)) ?_) | ((with_reducible refine callM_id ?_); refine callM_i (h2.m (by omega)) ?_) | ((with_reducible refine ecallM_id ?_); refine ecall_ma (h2.m (by omega)) ?_) | ((with_reducible refine callM_id ?_); refine callM_i (fathomref04_two 12 _ _ _) ?_) | ((with_reducible refine ecallM_id ?_); refine ecall_ma (fathomref04_two 12 _ _ _) ?_) | fail))
    omega
theorem wk_sum {k : Nat} (W : ∀ j, j ≤ k → Wk ms j) (s : Rs) (ha : Ri ms s) (hk : 12 * mu ms s + 6 ≤ k + 1) : MW ms F_fathomref04_reader_sum [] s (sumR ms (k + 1) s) := by
  have h1 := (W k (Nat.le_refl _)).term s ha (by omega)
  have g1 := (al hm k).term s ha.lt (by omega)
  have hml := hm.len
  simp only [sumR]
  generalize termR ms k s = r at *
  obtain ⟨a, s1⟩ := r
  simp only at h1 g1 ⊢
  have m1 : mu ms s1 ≤ mu ms s := g1.1.mu
  have hl : s1.at_ < ms.length := g1.1.lt
  intro n i hi
  refine mspec w_fathomref04_reader_sum hi (by simp) (by simp [V.bd, Ex.bd]) ?_
  unfold c_fathomref04_reader_sum r_fathomref04_reader_sum
  (repeat' (first | simp -implicitDefEqProofs (disch := omega) only [go_sem, ↓reduceIte, Mk.c] | (((first | with_reducible apply cnd_c | with_reducible apply grd_c | with_reducible apply pck_c) <;> intro wh <;> (try rewrite [wh]) <;> try simp only [wdw] at wh) <;> (try (revert wh; intro _)) <;> try (exfalso; omega)) | refine andi ?_ | ((with_reducible refine callM_id ?_); refine callM_i (h1.m (by omega)) ?_) | ((with_reducible refine ecallM_id ?_); refine ecall_ma (h1.m (by omega)) ?_) | fail))
  refine loop_o (fun t : Nat × Ex × Rs × Nat => ofL [(0, .ptr i 0), (2, .ptr n 0), (3, .ptr (n + 1) 0)]) (fun t => t.2.2.2) (fun t => t.1)
    (fun t ob => t.1 ≤ k ∧ 12 * mu ms t.2.2.1 + 1 ≤ t.1 ∧ Ri ms t.2.2.1 ∧ sumL ms t.1 t.2.1 t.2.2.1 = sumL ms k a s1 ∧ n + 2 ≤ t.2.2.2 ∧ ob i = some (rdO ms t.2.2.1) ∧ ob (n + 1) = some (.cells t.2.1.c) ∧ ob n = some (.cells [.int .i64 0, .str ⟨#[]⟩, .str ⟨#[]⟩, .int .i64 0, .cpx 0 0, .sl .full 7 [], .int .i64 0]))
    (k, a, s1, n + 1 + 1) rfl rfl ⟨Nat.le_refl _, by simp only; omega, ha.step g1.1, rfl, by simp only; omega, ?_, ?_, ?_⟩ fun t ob ht => ?_
  · simp (disch := omega) only [upd_same', upd_ne']
  · simp (disch := omega) only [upd_same', upd_ne']
  · simp (disch := omega) only [upd_same', upd_ne']
  obtain ⟨q, b, t, y⟩ := t
  simp only at ht ⊢
  obtain ⟨hq, hmu, hr, hfin, hy, ho1, ho2, ho3⟩ := ht
  obtain ⟨q, rfl⟩ : ∃ p, q = p + 1 := ⟨q - 1, by omega⟩
  have hl2 := hr.lt
  have hi1 := fun n (hi : i < n) => r_is (n := n) hi hl2 tkAdd
  have hi2 := fun n (hi : i < n) => r_is (n := n) hi hl2 tkSub
  by_cases hb : isB ms t tkAdd = true ∨ isB ms t tkSub = true
  · have hw : t.why = 0 := by rcases hb with hb | hb <;> exact (isB_kind hb).1
    have p1 : Pt ms t (adv t) 1 := by rcases hb with hb | hb <;> exact isB_pt hm hl2 hb
    have m2 := p1.mu1 hw
    have h2 := (W q (by omega)).term (adv t) (hr.step p1) (by omega)
    have g2 := (al hm q).term (adv t) p1.lt (by omega)
    have e : sumL ms (q + 1) b t = sumL ms q (twoE (if (nxt ms t).text = tkSub then 9 else 8) b (termR ms q (adv t)).1 (nxt ms t)) (termR ms q (adv t)).2 := by
      rw [sumL, if_pos hb]
    rw [e] at hfin
    generalize termR ms q (adv t) = c at *
    obtain ⟨c, u⟩ := c
    simp only at h2 g2 hfin ⊢
    have m3 : mu ms u ≤ mu ms (adv t) := g2.1.mu
    have hru : Ri ms u := (hr.step p1).step g2.1
    have hml2 : t.at_ < 32769 := by omega
    cases hb1 : isB ms t tkAdd
    · have hb2 : isB ms t tkSub = true := by simpa [hb1] using hb
      have htx := (isB_kind hb2).2.2
      have htx' : ((nxt ms t).text = ⟨#[45]⟩) = True := eq_true htx
      rw [hb1] at hi1
      rw [hb2] at hi2
      simp only [htx, if_true] at hfin
      (repeat' (first | simp -implicitDefEqProofs (disch := omega) only [go_sem, ↓reduceIte, Mk.c, ho1, ho2, ho3, htx'] | (((first | with_reducible apply cnd_c | with_reducible apply grd_c | with_reducible apply pck_c) <;> intro wh <;> (try rewrite [wh]) <;> try simp only [wdw] at wh) <;> (try (revert wh; intro _)) <;> try (exfalso; omega)) | refine andi ?_ | ((with_reducible refine callM_id ?_); refine callM_i (hi1 _ (by omega)) ?_) | ((with_reducible refine ecallM_id ?_); refine ecall_ma (hi1 _ (by omega)) ?_) | ((with_reducible refine callM_id ?_); refine callM_i (hi2 _ (by omega)) ?_) | ((with_reducible refine ecallM_id ?_); refine ecall_ma (hi2 _ (by omega)) ?_) | ((with_reducible refine callM_id ?_); refine callM_i (r_next (by omega) hl2) ?_) | ((with_reducible refine ecallM_id ?_); refine ecall_ma (r_next (by omega) hl2) ?_) | ((with_reducible refine callM_id ?_); refine callM_i (h2.m (by omega)) ?_) | ((with_reducible refine ecallM_id ?_); refine ecall_ma (h2.m (by omega)) ?_) | ((with_reducible refine callM_id ?_); refine callM_i (fathomref04_two 9 b c (nxt ms t)) ?_) | ((with_reducible refine ecallM_id ?_); refine ecall_ma (fathomref04_two 9 b c (nxt ms t)) ?_) | fail))
      exact ⟨(q, _, u, _), ⟨by simp only; omega, by simp only; omega, hru, hfin, by simp only; omega, rfl, rfl⟩, by simp only; omega, rfl⟩
    · have htx := (isB_kind hb1).2.2
      have htx' : ((nxt ms t).text = ⟨#[45]⟩) = False := eq_false (by rw [htx]; decide)
      have hne' : ¬ tkAdd = tkSub := by decide
      rw [hb1] at hi1
      simp only [htx, if_neg hne'] at hfin
      (repeat' (first | simp -implicitDefEqProofs (disch := omega) only [go_sem, ↓reduceIte, Mk.c, ho1, ho2, ho3, htx'] | (((first | with_reducible apply cnd_c | with_reducible apply grd_c | with_reducible apply pck_c) <;> intro wh <;> (try rewrite [wh]) <;> try simp only [wdw] at wh) <;> (try (revert wh; intro _)) <;> try (exfalso; omega)) | refine andi ?_ | ((with_reducible refine callM_id ?_); refine callM_i (hi1 _ (by omega)) ?_) | ((with_reducible refine ecallM_id ?_); refine ecall_ma (hi1 _ (by omega)) ?_) | ((with_reducible refine callM_id ?_); refine callM_i (r_next (by omega) hl2) ?_) | ((with_reducible refine ecallM_id ?_); refine ecall_ma (r_next (by omega) hl2) ?_) | ((with_reducible refine callM_id ?_); refine callM_i (h2.m (by omega)) ?_) | ((with_reducible refine ecallM_id ?_); refine ecall_ma (h2.m (by omega)) ?_) | ((with_reducible refine callM_id ?_); refine callM_i (fathomref04_two 8 b c (nxt ms t)) ?_) | ((with_reducible refine ecallM_id ?_); refine ecall_ma (fathomref04_two 8 b c (nxt ms t)) ?_) | fail))
      exact ⟨(q, _, u, _), ⟨by simp only; omega, by simp only; omega, hru, hfin, by simp only; omega, rfl, rfl⟩, by simp only; omega, rfl⟩
  · have hb1 : isB ms t tkAdd = false := by simpa using fun h => hb (.inl h)
    have hb2 : isB ms t tkSub = false := by simpa using fun h => hb (.inr h)
    rw [hb1] at hi1
    rw [hb2] at hi2
    have e : sumL ms (q + 1) b t = (b, t) := by rw [sumL, if_neg hb]
    rw [← hfin, e]
    (repeat' (first | simp -implicitDefEqProofs (disch := omega) only [go_sem, ↓reduceIte, Mk.c, ho1, ho2, ho3] | (((first | with_reducible apply cnd_c | with_reducible apply grd_c | with_reducible apply pck_c) <;> intro wh <;> (try rewrite [wh]) <;> try simp only [wdw] at wh) <;> (try (revert wh; intro _)) <;> try (exfalso; omega)) | refine andi ?_ | ((with_reducible refine callM_id ?_); refine callM_i (hi1 _ (by omega)) ?_) | ((with_reducible refine ecallM_id ?_); refine ecall_ma (hi1 _ (by omega)) ?_) | ((with_reducible refine callM_id ?_); refine callM_i (hi2 _ (by omega)) ?_) | ((with_reducible refine ecallM_id ?_); refine ecall_ma (hi2 _ (by omega)) ?_) | fail))
    omega
end
end Go.Proofs.Fathom
