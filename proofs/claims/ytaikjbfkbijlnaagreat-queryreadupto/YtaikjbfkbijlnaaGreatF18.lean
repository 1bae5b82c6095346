/- A part of the proof of 'Rows.QueryReadUptoSaid': for every text and every seeds (of bulk at most 1048576 together) fathomlaw19.QueryRead returns true and its arguments read afterwards as before. -/
import Derived.Test.YtaikjbfkbijlnaaGreatF17
set_option linter.unusedVariables false
set_option linter.unusedSimpArgs false
namespace Go.Proofs.Fathom
open Go Go.Proofs
attribute [local irreducible] PSpec CSpec
/-! ### points, fathomref15 -/
def topP (t : Int) : Int := if t = 1 ∨ t = 2 then 1 else if t = 3 then 3 else 0
def topE (t : Int) : Int := if t = 1 ∨ t = 2 then 0 else if t = 3 then 0 else 3
def rtop (t : Int) : Int := if t = 1 ∨ t = 2 then 1 else if t = 3 then 3 else -1
theorem rtop_le (t : Int) : -1 ≤ rtop t ∧ rtop t ≤ 3 := by unfold rtop; split; omega; split <;> omega
theorem topP_le (t : Int) : 0 ≤ topP t ∧ topP t ≤ 3 := by unfold topP; split; omega; split <;> omega
theorem topE_le (t : Int) : 0 ≤ topE t ∧ topE t ≤ 3 := by unfold topE; split; omega; split <;> omega
theorem points_Top (t : Int) : PS F_points_Top [I t] (.tup [I (topP t), I (topE t)]) := by
  (refine pspec' mixed w_points_Top (by simp) (by first | rfl | simp [V.bd, bds, bdss]) fun _ => ?_; unfold c_points_Top r_points_Top)
  (repeat' (first | simp -implicitDefEqProofs (disch := omega) only [go_sem, ↓reduceIte] | (((first | with_reducible apply cnd_c | with_reducible apply grd_c | with_reducible apply pck_c) <;> intro wh <;> (try rewrite [wh]) <;> try simp only [wdw] at wh) <;> (try (revert wh; intro _)) <;> try (exfalso; omega)) | refine andi ?_ | fail)) <;> simp_all [topP, topE]
theorem ref15_Top (t : Int) : PS F_fathomref15_Top [I t] (I (rtop t)) := by
  (refine pspec' mixed w_fathomref15_Top (by simp) (by first | rfl | simp [V.bd, bds, bdss]) fun _ => ?_; unfold c_fathomref15_Top r_fathomref15_Top)
  (repeat' (first | simp -implicitDefEqProofs (disch := omega) only [go_sem, ↓reduceIte] | (((first | with_reducible apply cnd_c | with_reducible apply grd_c | with_reducible apply pck_c) <;> intro wh <;> (try rewrite [wh]) <;> try simp only [wdw] at wh) <;> (try (revert wh; intro _)) <;> try (exfalso; omega)) | refine andi ?_ | fail)) <;> simp_all [rtop]
theorem ref15_Is (t p : Int) : PS F_fathomref15_Is [I t, I p] (.bool (decide (0 ≤ p ∧ p ≤ rtop t))) := by
  (refine pspec' mixed w_fathomref15_Is (by simp) (by first | rfl | simp [V.bd, bds, bdss]) fun _ => ?_; unfold c_fathomref15_Is r_fathomref15_Is)
  (repeat' (first | simp -implicitDefEqProofs (disch := omega) only [go_sem, ↓reduceIte] | (((first | with_reducible apply cnd_c | with_reducible apply grd_c | with_reducible apply pck_c) <;> intro wh <;> (try rewrite [wh]) <;> try simp only [wdw] at wh) <;> (try (revert wh; intro _)) <;> try (exfalso; omega)) | refine andi ?_ | ((with_reducible refine callM_id ?_); refine callM_i (ref15_Top _) ?_) | fail)) <;> simp_all <;> omega
def pcheck (t p : Int) : Int := if topE t = 0 ∧ (p < 0 ∨ topP t < p) then 2 else topE t
theorem points_Check (t p : Int) : PS F_points_Check [I t, I p] (I (pcheck t p)) := by
  (refine pspec' mixed w_points_Check (by simp) (by first | rfl | simp [V.bd, bds, bdss]) fun _ => ?_; unfold c_points_Check r_points_Check)
  (repeat' (first | simp -implicitDefEqProofs (disch := omega) only [go_sem, ↓reduceIte] | (((first | with_reducible apply cnd_c | with_reducible apply grd_c | with_reducible apply pck_c) <;> intro wh <;> (try rewrite [wh]) <;> try simp only [wdw] at wh) <;> (try (revert wh; intro _)) <;> try (exfalso; omega)) | refine andi ?_ | ((with_reducible refine callM_id ?_); refine callM_i (points_Top _) ?_) | fail)) <;> simp_all [pcheck] <;> omega
theorem tuples_size (t : Int) : PS F_tuples_size [I t] (.tup [I (topP t + 1), I (topE t)]) := by
  have := topP_le t
  (refine pspec' mixed w_tuples_size (by simp) (by first | rfl | simp [V.bd, bds, bdss]) fun _ => ?_; unfold c_tuples_size r_tuples_size)
  (repeat' (first | simp -implicitDefEqProofs (disch := omega) only [go_sem, ↓reduceIte] | (((first | with_reducible apply cnd_c | with_reducible apply grd_c | with_reducible apply pck_c) <;> intro wh <;> (try rewrite [wh]) <;> try simp only [wdw] at wh) <;> (try (revert wh; intro _)) <;> try (exfalso; omega)) | refine andi ?_ | ((with_reducible refine callM_id ?_); refine callM_i (points_Top _) ?_) | fail))
def tcount (n : Int) : List Int → Int × Int
  | [] => if 4096 < n then (0, 22) else (n, 0)
  | t :: l => if topE t ≠ 0 then (0, topE t) else tcount (min (n * (topP t + 1)) 4097) l
def pr (x : Int × Int) : V := .tup [I x.1, I x.2]
theorem tcount_le : ∀ (l : List Int) (n : Int), 0 ≤ n → n ≤ 4097 → 0 ≤ (tcount n l).1 ∧ (tcount n l).1 ≤ 4096
  | [], n, h0, h => by unfold tcount; split <;> simp <;> omega
  | t :: l, n, h0, h => by
    unfold tcount
    have := topP_le t
    split
    · simp
    · refine tcount_le l _ ?_ ?_
      · have : 0 ≤ n * (topP t + 1) := Int.mul_nonneg h0 (by omega)
        omega
      · omega
theorem tuples_Count (k : Tok) (l : List Int) (hl : l.length ≤ 1000000000) : PS F_tuples_Count [.sl k 1 (ints l)] (pr (tcount 1 l)) := by
  (refine pspec' mixed w_tuples_Count (by simp) (by first | rfl | simp [V.bd, bds, bdss]) fun _ => ?_; unfold c_tuples_Count r_tuples_Count)
  rename_i n
  (simp -implicitDefEqProofs (disch := omega) only [go_sem, ↓reduceIte])
  refine loop_rule (fun s : Nat × Int => ⟨ofL [(4, I s.2), (9, .sl k 1 (ints l)), (10, I l.length), (11, I s.1)], fun _ => none, n, 31, n⟩) (fun s => l.length - s.1)
    (fun s => s.1 ≤ l.length ∧ 0 ≤ s.2 ∧ s.2 ≤ 4097 ∧ tcount 1 l = tcount s.2 (l.drop s.1)) (0, 1) rfl ⟨by omega, by decide, by decide, by simp⟩ fun ⟨i, m⟩ ⟨hi, h0, h1, hc⟩ => ?_
  simp only at hi h0 h1 hc ⊢
  (simp -implicitDefEqProofs (disch := omega) only [go_sem, ↓reduceIte])
  ((first | with_reducible apply cnd_c | with_reducible apply grd_c | with_reducible apply pck_c) <;> intro h <;> (try rewrite [h]) <;> try simp only [wdw] at h)
  · have hd : l.drop i = [] := List.drop_eq_nil_of_le (by omega)
    rw [hd] at hc
    (repeat' (first | simp -implicitDefEqProofs (disch := omega) only [go_sem, ↓reduceIte] | (((first | with_reducible apply cnd_c | with_reducible apply grd_c | with_reducible apply pck_c) <;> intro wh <;> (try rewrite [wh]) <;> try simp only [wdw] at wh) <;> (try (revert wh; intro _)) <;> try (exfalso; omega)) | refine andi ?_ | fail)) <;> simp_all [tcount, pr] <;> simp [show ¬ 4096 < m by omega]
  · have h' : i < l.length := by omega
    have hd := List.drop_eq_getElem_cons h'
    rw [hd] at hc
    have ht := topP_le l[i]
    have hb : 0 ≤ m * (topP l[i] + 1) ∧ m * (topP l[i] + 1) ≤ 4097 * 4 := ⟨Int.mul_nonneg h0 (by omega), Int.mul_le_mul h1 (by omega) (by omega) (by omega)⟩
    (repeat' (first | simp -implicitDefEqProofs (disch := omega) only [go_sem, ↓reduceIte, getq h'] | (((first | with_reducible apply cnd_c | with_reducible apply grd_c | with_reducible apply pck_c) <;> intro wh <;> (try rewrite [wh]) <;> try simp only [wdw] at wh) <;> (try (revert wh; intro _)) <;> try (exfalso; omega)) | refine andi ?_ | ((with_reducible refine callM_id ?_); refine callM_i (tuples_size _) ?_) | fail))
    · rename_i hx
      refine ⟨(i + 1, min (m * (topP l[i] + 1)) 4097), ?_⟩
      simp only [tcount, hx, ne_eq, not_true, if_false] at hc
      refine ⟨⟨Nat.succ_le_of_lt h', ?_, ?_, hc⟩, ?_, by simp⟩ <;> simp only <;> omega
    · rename_i hx
      simp only [tcount, hx, ne_eq, not_false_eq_true, if_true] at hc
      simp [hc, pr]
def rcount2 (n : Int) : List Int → Int × Int
  | [] => (n, 0)
  | t :: l => if 4096 < n * (rtop t + 1) then (0, 22) else rcount2 (n * (rtop t + 1)) l
def rcount (l : List Int) : Int × Int := if (∀ x ∈ l, 0 ≤ rtop x) then rcount2 1 l else (0, 3)
theorem ref16_Count (k : Tok) (l : List Int) (hl : l.length ≤ 1000000000) : PS F_fathomref16_Count [.sl k 1 (ints l)] (pr (rcount l)) := by
  (refine pspec' mixed w_fathomref16_Count (by simp) (by first | rfl | simp [V.bd, bds, bdss]) fun _ => ?_; unfold c_fathomref16_Count r_fathomref16_Count)
  rename_i n
  (simp -implicitDefEqProofs (disch := omega) only [go_sem, ↓reduceIte])
  refine loop_rule (fun i : Nat => ⟨ofL [(0, .sl k 1 (ints l)), (4, I i)], fun _ => none, n, 36, n⟩) (fun i => l.length - i)
    (fun i => i ≤ l.length ∧ ∀ x ∈ l.take i, 0 ≤ rtop x) 0 rfl ⟨by omega, by simp⟩ fun i ⟨hi, hc⟩ => ?_
  (simp -implicitDefEqProofs (disch := omega) only [go_sem, ↓reduceIte])
  ((first | with_reducible apply cnd_c | with_reducible apply grd_c | with_reducible apply pck_c) <;> intro h <;> (try rewrite [h]) <;> try simp only [wdw] at h)
  · have hall : ∀ x ∈ l, 0 ≤ rtop x := by rwa [List.take_of_length_le h] at hc
    have hr : rcount l = rcount2 1 l := if_pos hall
    (simp -implicitDefEqProofs (disch := omega) only [go_sem, ↓reduceIte])
    refine loop_rule (fun s : Nat × Int => ⟨ofL [(0, .sl k 1 (ints l)), (5, I s.2), (6, I s.1)], fun _ => none, n, 36, n⟩) (fun s => l.length - s.1)
      (fun s => s.1 ≤ l.length ∧ 0 ≤ s.2 ∧ s.2 ≤ 4096 ∧ rcount2 1 l = rcount2 s.2 (l.drop s.1)) (0, 1) rfl ⟨by omega, by decide, by decide, by simp⟩ fun ⟨i, m⟩ ⟨hi, h0, h1, hc⟩ => ?_
    simp only at hi h0 h1 hc ⊢
    (simp -implicitDefEqProofs (disch := omega) only [go_sem, ↓reduceIte])
    ((first | with_reducible apply cnd_c | with_reducible apply grd_c | with_reducible apply pck_c) <;> intro h <;> (try rewrite [h]) <;> try simp only [wdw] at h)
    · have hd : l.drop i = [] := List.drop_eq_nil_of_le h
      rw [hd] at hc
      (repeat' (first | simp -implicitDefEqProofs (disch := omega) only [go_sem, ↓reduceIte] | (((first | with_reducible apply cnd_c | with_reducible apply grd_c | with_reducible apply pck_c) <;> intro wh <;> (try rewrite [wh]) <;> try simp only [wdw] at wh) <;> (try (revert wh; intro _)) <;> try (exfalso; omega)) | refine andi ?_ | fail))
      simp [hr, hc, rcount2, pr]
    · have hd := List.drop_eq_getElem_cons h
      rw [hd] at hc
      have ht := rtop_le l[i]
      have ht2 := hall l[i] (List.getElem_mem h)
      have hb : 0 ≤ m * (rtop l[i] + 1) ∧ m * (rtop l[i] + 1) ≤ 4096 * 4 := ⟨Int.mul_nonneg h0 (by omega), Int.mul_le_mul h1 (by omega) (by omega) (by omega)⟩
      (repeat' (first | simp -implicitDefEqProofs (disch := omega) only [go_sem, ↓reduceIte, getq h] | (((first | with_reducible apply cnd_c | with_reducible apply grd_c | with_reducible apply pck_c) <;> intro wh <;> (try rewrite [wh]) <;> try simp only [wdw] at wh) <;> (try (revert wh; intro _)) <;> try (exfalso; omega)) | refine andi ?_ | ((with_reducible refine callM_id ?_); refine callM_i (ref15_Top _) ?_) | fail))
      · rename_i hx
        refine ⟨(i + 1, m * (rtop l[i] + 1)), ?_⟩
        simp only [rcount2, show ¬ 4096 < m * (rtop l[i] + 1) by omega, if_false] at hc
        refine ⟨⟨Nat.succ_le_of_lt h, ?_, ?_, hc⟩, ?_, by simp⟩ <;> simp only <;> omega
      · rename_i hx
        simp only [rcount2, hx, if_true] at hc
        simp [hr, hc, pr]
  · (repeat' (first | simp -implicitDefEqProofs (disch := omega) only [go_sem, ↓reduceIte, getq h] | (((first | with_reducible apply cnd_c | with_reducible apply grd_c | with_reducible apply pck_c) <;> intro wh <;> (try rewrite [wh]) <;> try simp only [wdw] at wh) <;> (try (revert wh; intro _)) <;> try (exfalso; omega)) | refine andi ?_ | ((with_reducible refine callM_id ?_); refine callM_i (ref15_Top _) ?_) | fail))
    · rename_i hx
      refine ⟨i + 1, ⟨Nat.succ_le_of_lt h, ?_⟩, by omega, by simp⟩
      rw [List.take_succ_eq_append_getElem h]
      intro x hm
      rcases List.mem_append.1 hm with hm | hm
      · exact hc x hm
      · simp at hm; subst hm; exact hx
    · rename_i hx
      have : rcount l = (0, 3) := if_neg fun hall => by
        have := hall l[i] (List.getElem_mem h)
        omega
      simp [this, pr]
end Go.Proofs.Fathom
set_option linter.unusedVariables false
set_option linter.unusedSimpArgs false
namespace Go.Proofs.Fathom
open Go Go.Proofs
attribute [local irreducible] PSpec CSpec
theorem rtop_iff (t : Int) : 0 ≤ rtop t ↔ topE t = 0 := by
  unfold rtop topE; split; simp; split <;> simp
theorem rtop_eq {t : Int} (h : topE t = 0) : rtop t = topP t := by
  unfold topE at h; unfold rtop topP; split; rfl; split; rfl; simp_all
def prodT : List Int → Int
  | [] => 1
  | t :: l => (topP t + 1) * prodT l
theorem prodT_pos : ∀ l, 1 ≤ prodT l
  | [] => by simp [prodT]
  | t :: l => by
    have := topP_le t
    have h := prodT_pos l
    simp only [prodT]
    have : 1 * 1 ≤ (topP t + 1) * prodT l := Int.mul_le_mul (by omega) h (by omega) (by omega)
    omega
theorem tcount_ok : ∀ (l : List Int) (n : Int), 1 ≤ n → n ≤ 4097 → (tcount n l).2 = 0 → (∀ t ∈ l, topE t = 0) ∧ n * prodT l ≤ 4096 ∧ (tcount n l).1 = n * prodT l
  | [], n, h0, h1, h => by
    unfold tcount at h ⊢
    split at h
    · simp at h
    · rename_i hx; simp [hx, prodT]; omega
  | t :: l, n, h0, h1, h => by
    unfold tcount at h ⊢
    have ht := topP_le t
    split at h
    · rename_i hx; simp at h; exact absurd h hx
    · rename_i hx
      have hx' : topE t = 0 := by simpa using hx
      rw [if_neg hx]
      have hk : 1 * 1 ≤ n * (topP t + 1) := Int.mul_le_mul h0 (by omega) (by omega) (by omega)
      obtain ⟨a, b, c⟩ := tcount_ok l _ (by omega) (by omega) h
      have hp := prodT_pos l
      have hle : min (n * (topP t + 1)) 4097 ≤ 4096 := by
        have h5 : min (n * (topP t + 1)) 4097 * 1 ≤ min (n * (topP t + 1)) 4097 * prodT l := Int.mul_le_mul (by omega) hp (by omega) (by omega)
        omega
      have he : min (n * (topP t + 1)) 4097 = n * (topP t + 1) := by omega
      rw [he] at b c ⊢
      simp only [prodT]
      rw [← Int.mul_assoc]
      exact ⟨by simp [hx']; exact a, b, c⟩
def tnum (n : Int) : List Int → List Int → Int × Int
  | t :: ps, p :: xs => if pcheck t p ≠ 0 then (0, pcheck t p) else tnum (n * (topP t + 1) + p) ps xs
  | _, _ => (n, 0)
def tnumber (ps xs : List Int) : Int × Int :=
  if (tcount 1 ps).2 ≠ 0 then (0, (tcount 1 ps).2) else if xs.length ≠ ps.length then (0, 3) else tnum 0 ps xs
theorem step_le {m k p q : Int} (h0 : 0 ≤ m) (hp : 0 ≤ p) (hk : p + 1 ≤ k) (hq : 1 ≤ q) (h : (m + 1) * (k * q) ≤ 4096) : (m * k + p + 1) * q ≤ 4096 ∧ 0 ≤ m * k ∧ m * k + p ≤ 4096 := by
  have e : (m + 1) * k = m * k + k := by rw [Int.add_mul]; omega
  have h1 : m * k + p + 1 ≤ (m + 1) * k := by omega
  have h2 : (m * k + p + 1) * q ≤ (m + 1) * k * q := Int.mul_le_mul_of_nonneg_right h1 (by omega)
  rw [Int.mul_assoc] at h2
  have h3 : 0 ≤ m * k := Int.mul_nonneg h0 (by omega)
  have h4 : (m * k + p + 1) * 1 ≤ (m * k + p + 1) * q := Int.mul_le_mul_of_nonneg_left hq (by omega)
  exact ⟨by omega, h3, by omega⟩
theorem tuples_Number (k k' : Tok) (l xs : List Int) (hl : l.length ≤ 1000000000) : PS F_tuples_Number [.sl k 1 (ints l), .sl k' 1 (ints xs)] (pr (tnumber l xs)) := by
  (refine pspec' mixed w_tuples_Number (by simp) (by first | rfl | simp [V.bd, bds, bdss]) fun _ => ?_; unfold c_tuples_Number r_tuples_Number)
  rename_i n
  (simp -implicitDefEqProofs (disch := omega) only [go_sem, ↓reduceIte])
  refine callM_i (tuples_Count _ _ hl) ?_
  (simp -implicitDefEqProofs (disch := omega) only [go_sem, ↓reduceIte, pr])
  ((first | with_reducible apply cnd_c | with_reducible apply grd_c | with_reducible apply pck_c) <;> intro h <;> (try rewrite [h]) <;> try simp only [wdw] at h)
  · have h' : (tcount 1 l).2 = 0 := by simpa using h
    obtain ⟨hall, hpr, _⟩ := tcount_ok l 1 (by decide) (by decide) h'
    (simp -implicitDefEqProofs (disch := omega) only [go_sem, ↓reduceIte])
    ((first | with_reducible apply cnd_c | with_reducible apply grd_c | with_reducible apply pck_c) <;> intro h2 <;> (try rewrite [h2]) <;> try simp only [wdw] at h2)
    · have h2' : xs.length = l.length := by
        have : (xs.length : Int) = l.length := by simpa using h2
        omega
      have hr : tnumber l xs = tnum 0 l xs := by simp [tnumber, h', h2']
      (simp -implicitDefEqProofs (disch := omega) only [go_sem, ↓reduceIte])
      refine loop_rule (fun s : Nat × Int => ⟨ofL [(0, .sl k 1 (ints l)), (8, I s.2), (27, .sl k' 1 (ints xs)), (28, I xs.length), (29, I s.1)], fun _ => none, n, 58, n⟩) (fun s => l.length - s.1)
        (fun s => s.1 ≤ l.length ∧ 0 ≤ s.2 ∧ (s.2 + 1) * prodT (l.drop s.1) ≤ 4096 ∧ tnum 0 l xs = tnum s.2 (l.drop s.1) (xs.drop s.1)) (0, 0) rfl ⟨by omega, by decide, by simpa using hpr, by simp⟩ fun ⟨i, m⟩ ⟨hi, h0, h1, hc⟩ => ?_
      simp only at hi h0 h1 hc ⊢
      (simp -implicitDefEqProofs (disch := omega) only [go_sem, ↓reduceIte])
      ((first | with_reducible apply cnd_c | with_reducible apply grd_c | with_reducible apply pck_c) <;> intro h3 <;> (try rewrite [h3]) <;> try simp only [wdw] at h3)
      · have hd : l.drop i = [] := List.drop_eq_nil_of_le (by omega)
        have hd2 : xs.drop i = [] := List.drop_eq_nil_of_le (by omega)
        rw [hd, hd2] at hc
        (repeat' (first | simp -implicitDefEqProofs (disch := omega) only [go_sem, ↓reduceIte] | (((first | with_reducible apply cnd_c | with_reducible apply grd_c | with_reducible apply pck_c) <;> intro wh <;> (try rewrite [wh]) <;> try simp only [wdw] at wh) <;> (try (revert wh; intro _)) <;> try (exfalso; omega)) | refine andi ?_ | fail))
        simp [hr, hc, tnum]
      · have h3' : i < l.length := by omega
        have hd := List.drop_eq_getElem_cons h3
        have hd2 := List.drop_eq_getElem_cons h3'
        rw [hd, hd2] at hc
        rw [hd2] at h1
        simp only [prodT] at h1
        have ht := topP_le l[i]
        have ht2 := hall l[i] (List.getElem_mem h3')
        (simp -implicitDefEqProofs (disch := omega) only [go_sem, ↓reduceIte, getq h3, getq h3'])
        refine callM_i (points_Check _ _) ?_
        (simp -implicitDefEqProofs (disch := omega) only [go_sem, ↓reduceIte])
        ((first | with_reducible apply cnd_c | with_reducible apply grd_c | with_reducible apply pck_c) <;> intro h4 <;> (try rewrite [h4]) <;> try simp only [wdw] at h4)
        · have h4' : pcheck l[i] xs[i] = 0 := by simpa using h4
          have hp : 0 ≤ xs[i] ∧ xs[i] ≤ topP l[i] := by
            simp only [pcheck, ht2, true_and] at h4'
            split at h4'
            · omega
            · omega
          have hs := step_le (q := prodT (l.drop (i + 1))) h0 hp.1 (show xs[i] + 1 ≤ topP l[i] + 1 by omega) (prodT_pos _) h1
          (repeat' (first | simp -implicitDefEqProofs (disch := omega) only [go_sem, ↓reduceIte, getq h3'] | (((first | with_reducible apply cnd_c | with_reducible apply grd_c | with_reducible apply pck_c) <;> intro wh <;> (try rewrite [wh]) <;> try simp only [wdw] at wh) <;> (try (revert wh; intro _)) <;> try (exfalso; omega)) | refine andi ?_ | ((with_reducible refine callM_id ?_); refine callM_i (tuples_size _) ?_) | fail))
          refine ⟨(i + 1, m * (topP l[i] + 1) + xs[i]), ?_⟩
          simp only [tnum, h4', ne_eq, not_true, if_false] at hc
          refine ⟨⟨Nat.succ_le_of_lt h3', ?_, ?_, hc⟩, ?_, by simp⟩ <;> simp only <;> omega
        · have h4' : ¬ pcheck l[i] xs[i] = 0 := by simpa using h4
          (repeat' (first | simp -implicitDefEqProofs (disch := omega) only [go_sem, ↓reduceIte] | (((first | with_reducible apply cnd_c | with_reducible apply grd_c | with_reducible apply pck_c) <;> intro wh <;> (try rewrite [wh]) <;> try simp only [wdw] at wh) <;> (try (revert wh; intro _)) <;> try (exfalso; omega)) | refine andi ?_ | fail))
          simp only [tnum, ne_eq, h4', not_false_eq_true, if_true] at hc
          simp [hr, hc]
    · have h2' : ¬ xs.length = l.length := by
        have : ¬ (xs.length : Int) = l.length := by simpa using h2
        omega
      (repeat' (first | simp -implicitDefEqProofs (disch := omega) only [go_sem, ↓reduceIte] | (((first | with_reducible apply cnd_c | with_reducible apply grd_c | with_reducible apply pck_c) <;> intro wh <;> (try rewrite [wh]) <;> try simp only [wdw] at wh) <;> (try (revert wh; intro _)) <;> try (exfalso; omega)) | refine andi ?_ | fail))
      simp [tnumber, h', h2']
  · have h' : ¬ (tcount 1 l).2 = 0 := by simpa using h
    (repeat' (first | simp -implicitDefEqProofs (disch := omega) only [go_sem, ↓reduceIte] | (((first | with_reducible apply cnd_c | with_reducible apply grd_c | with_reducible apply pck_c) <;> intro wh <;> (try rewrite [wh]) <;> try simp only [wdw] at wh) <;> (try (revert wh; intro _)) <;> try (exfalso; omega)) | refine andi ?_ | fail))
    simp [tnumber, h']
theorem tcount_big : ∀ (l : List Int), (∀ t ∈ l, topE t = 0) → tcount 4097 l = (0, 22)
  | [], _ => by simp [tcount]
  | t :: l, h => by
    have h0 := h t (by simp)
    have ht := topP_le t
    simp only [tcount, h0, ne_eq, not_true, if_false]
    rw [show min (4097 * (topP t + 1)) 4097 = 4097 by omega]
    exact tcount_big l fun x hx => h x (by simp [hx])
theorem rcount2_eq : ∀ (l : List Int) (n : Int), 1 ≤ n → n ≤ 4096 → (∀ t ∈ l, topE t = 0) → rcount2 n l = tcount n l
  | [], n, h0, h1, _ => by simp [tcount, rcount2, show ¬ 4096 < n by omega]
  | t :: l, n, h0, h1, h => by
    have hx := h t (by simp)
    have ht := topP_le t
    have hr := rtop_eq hx
    simp only [tcount, rcount2, hx, hr, ne_eq, not_true, if_false]
    have hk : 1 * 1 ≤ n * (topP t + 1) := Int.mul_le_mul h0 (by omega) (by omega) (by omega)
    split
    · rw [show min (n * (topP t + 1)) 4097 = 4097 by omega]
      exact (tcount_big l fun x hx => h x (by simp [hx])).symm
    · rw [show min (n * (topP t + 1)) 4097 = n * (topP t + 1) by omega]
      exact rcount2_eq l _ (by omega) (by omega) fun x hx => h x (by simp [hx])
theorem tcount_bad : ∀ (l : List Int) (n : Int), (∃ t ∈ l, topE t ≠ 0) → tcount n l = (0, 3)
  | [], n, ⟨t, h, _⟩ => by simp at h
  | t :: l, n, h => by
    simp only [tcount]
    by_cases hx : topE t = 0
    · simp only [hx, ne_eq, not_true, if_false]
      refine tcount_bad l _ ?_
      obtain ⟨y, hy, hn⟩ := h
      rcases List.mem_cons.1 hy with rfl | hy
      · exact absurd hx hn
      · exact ⟨y, hy, hn⟩
    · simp only [ne_eq, hx, not_false_eq_true, if_true]
      have : topE t = 3 := by unfold topE at hx ⊢; split at hx; simp at hx; split at hx <;> simp_all
      rw [this]
theorem rcount_eq (l : List Int) : rcount l = tcount 1 l := by
  unfold rcount
  split
  · rename_i h
    exact rcount2_eq l 1 (by decide) (by decide) fun t ht => (rtop_iff t).1 (h t ht)
  · rename_i h
    simp only [Classical.not_forall] at h
    obtain ⟨t, ht, hn⟩ := h
    exact (tcount_bad l 1 ⟨t, ht, fun h => hn ((rtop_iff t).2 h)⟩).symm
theorem ref16_Count' (k : Tok) (l : List Int) (hl : l.length ≤ 1000000000) : PS F_fathomref16_Count [.sl k 1 (ints l)] (pr (tcount 1 l)) := rcount_eq l ▸ ref16_Count k l hl
theorem ref16_Number (k k' : Tok) (l xs : List Int) (hl : l.length ≤ 1000000000) : PS F_fathomref16_Number [.sl k 1 (ints l), .sl k' 1 (ints xs)] (pr (tnumber l xs)) := by
  (refine pspec' mixed w_fathomref16_Number (by simp) (by first | rfl | simp [V.bd, bds, bdss]) fun _ => ?_; unfold c_fathomref16_Number r_fathomref16_Number)
  rename_i n
  (simp -implicitDefEqProofs (disch := omega) only [go_sem, ↓reduceIte])
  refine callM_i (ref16_Count' _ _ hl) ?_
  (simp -implicitDefEqProofs (disch := omega) only [go_sem, ↓reduceIte, pr])
  ((first | with_reducible apply cnd_c | with_reducible apply grd_c | with_reducible apply pck_c) <;> intro h <;> (try rewrite [h]) <;> try simp only [wdw] at h)
  · have h' : (tcount 1 l).2 = 0 := by simpa using h
    obtain ⟨hall, hpr, _⟩ := tcount_ok l 1 (by decide) (by decide) h'
    (simp -implicitDefEqProofs (disch := omega) only [go_sem, ↓reduceIte])
    ((first | with_reducible apply cnd_c | with_reducible apply grd_c | with_reducible apply pck_c) <;> intro h2 <;> (try rewrite [h2]) <;> try simp only [wdw] at h2)
    · have h2' : xs.length = l.length := by
        have : (xs.length : Int) = l.length := by simpa using h2
        omega
      have hr : tnumber l xs = tnum 0 l xs := by simp [tnumber, h', h2']
      (simp -implicitDefEqProofs (disch := omega) only [go_sem, ↓reduceIte])
      refine loop_rule (fun s : Nat × Int => ⟨ofL [(0, .sl k 1 (ints l)), (1, .sl k' 1 (ints xs)), (8, I s.2), (9, I s.1)], fun _ => none, n, 53, n⟩) (fun s => l.length - s.1)
        (fun s => s.1 ≤ l.length ∧ 0 ≤ s.2 ∧ (s.2 + 1) * prodT (l.drop s.1) ≤ 4096 ∧ tnum 0 l xs = tnum s.2 (l.drop s.1) (xs.drop s.1)) (0, 0) rfl ⟨by omega, by decide, by simpa using hpr, by simp⟩ fun ⟨i, m⟩ ⟨hi, h0, h1, hc⟩ => ?_
      simp only at hi h0 h1 hc ⊢
      (simp -implicitDefEqProofs (disch := omega) only [go_sem, ↓reduceIte])
      ((first | with_reducible apply cnd_c | with_reducible apply grd_c | with_reducible apply pck_c) <;> intro h3 <;> (try rewrite [h3]) <;> try simp only [wdw] at h3)
      · have hd : l.drop i = [] := List.drop_eq_nil_of_le (by omega)
        have hd2 : xs.drop i = [] := List.drop_eq_nil_of_le (by omega)
        rw [hd, hd2] at hc
        (repeat' (first | simp -implicitDefEqProofs (disch := omega) only [go_sem, ↓reduceIte] | (((first | with_reducible apply cnd_c | with_reducible apply grd_c | with_reducible apply pck_c) <;> intro wh <;> (try rewrite [wh]) <;> try simp only [wdw] at wh) <;> (try (revert wh; intro _)) <;> try (exfalso; omega)) | refine andi ?_ | fail))
        simp [hr, hc, tnum]
      · have h3' : i < xs.length := by omega
        have hd := List.drop_eq_getElem_cons h3'
        have hd2 := List.drop_eq_getElem_cons h3
        rw [hd, hd2] at hc
        rw [hd2] at h1
        simp only [prodT] at h1
        have ht := topP_le l[i]
        have ht2 := hall l[i] (List.getElem_mem h3)
        have hrt := rtop_eq ht2
        (simp -implicitDefEqProofs (disch := omega) only [go_sem, ↓reduceIte, getq h3, getq h3'])
        refine callM_i (ref15_Is _ _) ?_
        (simp -implicitDefEqProofs (disch := omega) only [go_sem, ↓reduceIte])
        ((first | with_reducible apply cnd_c | with_reducible apply grd_c | with_reducible apply pck_c) <;> intro h4 <;> (try rewrite [h4]) <;> try simp only [wdw] at h4)
        · rw [hrt] at h4
          have h4' : pcheck l[i] xs[i] = 0 := by
            simp only [pcheck, ht2, true_and]
            rw [if_neg (by omega)]
          have hs := step_le (q := prodT (l.drop (i + 1))) h0 h4.1 (show xs[i] + 1 ≤ topP l[i] + 1 by omega) (prodT_pos _) h1
          rw [← hrt] at hs
          (repeat' (first | simp -implicitDefEqProofs (disch := omega) only [go_sem, ↓reduceIte, getq h3, getq h3'] | (((first | with_reducible apply cnd_c | with_reducible apply grd_c | with_reducible apply pck_c) <;> intro wh <;> (try rewrite [wh]) <;> try simp only [wdw] at wh) <;> (try (revert wh; intro _)) <;> try (exfalso; omega)) | refine andi ?_ | ((with_reducible refine callM_id ?_); refine callM_i (ref15_Top _) ?_) | fail))
          rw [hrt]
          refine ⟨(i + 1, m * (topP l[i] + 1) + xs[i]), ?_⟩
          rw [hrt] at hs
          simp only [tnum, h4', ne_eq, not_true, if_false] at hc
          refine ⟨⟨Nat.succ_le_of_lt h3, ?_, ?_, hc⟩, ?_, by simp⟩ <;> simp only <;> omega
        · have h4' : pcheck l[i] xs[i] = 2 := by
            rw [hrt] at h4
            simp only [pcheck, ht2, true_and]
            rw [if_pos (by omega)]
          (repeat' (first | simp -implicitDefEqProofs (disch := omega) only [go_sem, ↓reduceIte] | (((first | with_reducible apply cnd_c | with_reducible apply grd_c | with_reducible apply pck_c) <;> intro wh <;> (try rewrite [wh]) <;> try simp only [wdw] at wh) <;> (try (revert wh; intro _)) <;> try (exfalso; omega)) | refine andi ?_ | fail))
          simp only [tnum, h4', ne_eq] at hc
          simp [hr, hc]
    · have h2' : ¬ xs.length = l.length := by
        have : ¬ (xs.length : Int) = l.length := by simpa using h2
        omega
      (repeat' (first | simp -implicitDefEqProofs (disch := omega) only [go_sem, ↓reduceIte] | (((first | with_reducible apply cnd_c | with_reducible apply grd_c | with_reducible apply pck_c) <;> intro wh <;> (try rewrite [wh]) <;> try simp only [wdw] at wh) <;> (try (revert wh; intro _)) <;> try (exfalso; omega)) | refine andi ?_ | fail))
      simp [tnumber, h', h2']
  · have h' : ¬ (tcount 1 l).2 = 0 := by simpa using h
    (repeat' (first | simp -implicitDefEqProofs (disch := omega) only [go_sem, ↓reduceIte] | (((first | with_reducible apply cnd_c | with_reducible apply grd_c | with_reducible apply pck_c) <;> intro wh <;> (try rewrite [wh]) <;> try simp only [wdw] at wh) <;> (try (revert wh; intro _)) <;> try (exfalso; omega)) | refine andi ?_ | fail))
    simp [tnumber, h']
end Go.Proofs.Fathom
set_option linter.unusedVariables false
set_option linter.unusedSimpArgs false
namespace Go.Proofs.Fathom
open Go Go.Proofs
attribute [local irreducible] PSpec CSpec
def Fn.types (f : Fn) : List Int := f.params.map Pm.typ
theorem ints_snoc (l : List Int) (x : Int) : ints l ++ [[V.int .i64 x]] = ints (l ++ [x]) := by simp [ints]
theorem take_snoc {α : Type} {l : List α} {i : Nat} (h : i < l.length) : l.take i ++ [l[i]] = l.take (i + 1) := (List.take_succ_eq_append_getElem h).symm
theorem ref17_Types (f : Fn) (hl : f.params.length ≤ 1000000) : PS F_fathomref17_Types [.agg f.c] (.sl .no 1 (ints f.types)) := by
  refine pspec' mixed w_fathomref17_Types (by simp) (by simp [V.bd, ints_bd]) fun n => ?_
  unfold c_fathomref17_Types r_fathomref17_Types
  (simp -implicitDefEqProofs (disch := omega) only [go_sem, ↓reduceIte, Fn.c])
  refine loop_rule (fun i : Nat => ⟨ofL [(1, .cref f.c), (3, .sl (.tip n) 1 (ints (f.types.take i))), (4, I i)], upd (fun _ => none) n (some (.tip 1 i)), n + 1, 22, n⟩) (fun i => f.params.length - i)
    (fun i => i ≤ f.params.length) 0 rfl (by omega) fun i hi => ?_
  have hm : min i f.types.length = i := by simp [Fn.types]; omega
  (simp -implicitDefEqProofs (disch := omega) only [go_sem, ↓reduceIte, Fn.c])
  refine And.intro (by omega) (And.intro (by omega) ?_)
  ((first | with_reducible apply cnd_c | with_reducible apply grd_c | with_reducible apply pck_c) <;> intro h <;> (try rewrite [h]) <;> try simp only [wdw] at h)
  · (repeat' (first | simp -implicitDefEqProofs (disch := omega) only [go_sem, ↓reduceIte] | (((first | with_reducible apply cnd_c | with_reducible apply grd_c | with_reducible apply pck_c) <;> intro wh <;> (try rewrite [wh]) <;> try simp only [wdw] at wh) <;> (try (revert wh; intro _)) <;> try (exfalso; omega)) | refine andi ?_ | fail))
    rw [List.take_of_length_le]
    simpa [Fn.types] using h
  · have hg : f.types[i]? = some f.params[i].typ := by simp [Fn.types, h]
    have h' : i < f.types.length := by simpa [Fn.types] using h
    (repeat' (first | simp -implicitDefEqProofs (disch := omega) only [go_sem, ↓reduceIte, getq h, Fn.c, Pm.c, List.length_take, hm, appT_s] | (((first | with_reducible apply cnd_c | with_reducible apply grd_c | with_reducible apply pck_c) <;> intro wh <;> (try rewrite [wh]) <;> try simp only [wdw] at wh) <;> (try (revert wh; intro _)) <;> try (exfalso; omega)) | refine andi ?_ | fail))
    refine ⟨i + 1, h, by omega, ?_⟩
    have e : ints (List.take i f.types) ++ [[V.int IntKind.i64 f.params[i].typ]] = ints (f.types.take (i + 1)) := by
      rw [ints_snoc, ← take_snoc h']
      simp [Fn.types]
    rw [e]
    simp [Fn.c]
end Go.Proofs.Fathom
set_option linter.unusedVariables false
set_option linter.unusedSimpArgs false
namespace Go.Proofs.Fathom
open Go Go.Proofs
attribute [local irreducible] PSpec CSpec
/-! ### rows -/
def wordsN (n : Int) : Int := (n + 31).tdiv 32
theorem wordsN_eq {n : Int} (h0 : 0 ≤ n) : wordsN n = (n + 31) / 32 := Int.tdiv_eq_ediv_of_nonneg (by omega)
theorem rows_words (n : Int) (h0 : 0 ≤ n) (h1 : n ≤ 1000000) : PS F_rows_words [I n] (I (wordsN n)) := by
  have h := wordsN_eq h0
  (refine pspec' mixed w_rows_words (by simp) (by first | rfl | simp [V.bd, bds, bdss]) fun _ => ?_; unfold c_rows_words r_rows_words)
  (repeat' (first | simp -implicitDefEqProofs (disch := omega) only [go_sem, ↓reduceIte] | (((first | with_reducible apply cnd_c | with_reducible apply grd_c | with_reducible apply pck_c) <;> intro wh <;> (try rewrite [wh]) <;> try simp only [wdw] at wh) <;> (try (revert wh; intro _)) <;> try (exfalso; omega)) | refine andi ?_ | fail))
  rw [wrap_i64]
  · rfl
  · unfold wordsN at h; omega
  · unfold wordsN at h; omega
structure Rw where
  n : Int
  bits : List Int
def Rw.c (r : Rw) : List V := [I r.n, .sl .no 1 (u64s r.bits)]
def Rw.ok (r : Rw) : Bool := decide (0 ≤ r.n) && decide (r.n ≤ 4096) && decide ((r.bits.length : Int) = wordsN r.n) &&
  (decide (r.n.tmod 32 ≤ 0) || decide ((r.bits.getD (r.bits.length - 1) 0).fdiv (2 ^ (min (2 * r.n.tmod 32).toNat 64)) = 0))
theorem rows_Check (r : Rw) : PS F_rows_Check [.agg r.c] (I (if r.ok then 0 else 3)) := by
  (refine pspec' mixed w_rows_Check (by simp) (by first | rfl | simp [V.bd, bds, bdss]) fun _ => ?_; unfold c_rows_Check r_rows_Check)
  (repeat' (first | simp -implicitDefEqProofs (disch := omega) only [go_sem, ↓reduceIte, Rw.c] | (((first | with_reducible apply cnd_c | with_reducible apply grd_c | with_reducible apply pck_c) <;> intro wh <;> (try rewrite [wh]) <;> try simp only [wdw] at wh) <;> (try (revert wh; intro _)) <;> try (exfalso; omega)) | refine andi ?_ | ((with_reducible refine callM_id ?_); refine callM_i (rows_words _ (by omega) (by omega)) ?_) | fail))
  case false.false.false.true h0 h1 h2 h3 =>
    have hw := wordsN_eq h0
    have hm : r.n.tmod 32 = r.n % 32 := Int.tmod_eq_emod_of_nonneg h0
    have hpos : 0 < r.bits.length := by omega
    have ht : ((r.bits.length : Int) - 1).toNat = r.bits.length - 1 := by omega
    have hg : r.bits.getD (r.bits.length - 1) 0 = r.bits[r.bits.length - 1] := by rw [List.getD_eq_getElem?_getD, getq (show r.bits.length - 1 < r.bits.length by omega)]; rfl
    (repeat' (first | simp -implicitDefEqProofs (disch := omega) only [go_sem, ↓reduceIte, ht, getq (show r.bits.length - 1 < r.bits.length by omega)] | (((first | with_reducible apply cnd_c | with_reducible apply grd_c | with_reducible apply pck_c) <;> intro wh <;> (try rewrite [wh]) <;> try simp only [wdw] at wh) <;> (try (revert wh; intro _)) <;> try (exfalso; omega)) | refine andi ?_ | fail))
    all_goals
      rename_i hx
      rw [← hg] at hx
    · have : r.ok = true := by simp [Rw.ok, h0, h1, h2, show ¬ r.n.tmod 32 ≤ 0 by omega]; simpa using hx
      simp [this]
    · have : r.ok = false := by simp [Rw.ok, h0, h1, h2, show ¬ r.n.tmod 32 ≤ 0 by omega]; simpa using hx
      simp [this]
  case false.false.false.false h0 h1 h2 h3 =>
    have : r.ok = true := by simp [Rw.ok, h0, h1, h2, h3]
    simp [this]
  case false.false.true h0 h1 h2 =>
    have : r.ok = false := by simp [Rw.ok, h2]
    simp [this]
  case false.true h0 h1 =>
    have : r.ok = false := by simp [Rw.ok, show ¬ r.n ≤ 4096 by omega]
    simp [this]
  case true h0 =>
    have : r.ok = false := by simp [Rw.ok, show ¬ 0 ≤ r.n by omega]
    simp [this]
end Go.Proofs.Fathom
set_option linter.unusedVariables false
set_option linter.unusedSimpArgs false
namespace Go.Proofs.Fathom
open Go Go.Proofs
attribute [local irreducible] PSpec CSpec
theorem wrap_u64 {x : Int} (h1 : 0 ≤ x) (h2 : x < 18446744073709551616) : IntKind.u64.wrap x = x := Go.IntWalk.u64_in x (by omega)
theorem and3 {x : Int} (h0 : 0 ≤ x) (h1 : x < 18446744073709551616) : bitsv .and .u64 x 3 = x % 4 := by
  obtain ⟨m, rfl⟩ := Int.eq_ofNat_of_zero_le h0
  have hm : m < 18446744073709551616 := by omega
  have e : (BitVec.ofInt 64 (m : Int) &&& BitVec.ofInt 64 3).toNat = m % 4 := by
    rw [BitVec.toNat_and]
    have h3 : (BitVec.ofInt 64 3).toNat = 2 ^ 2 - 1 := by decide
    rw [h3, Nat.and_two_pow_sub_one_eq_mod]
    have : (BitVec.ofInt 64 (m : Int)).toNat = m := by
      simp [BitVec.ofInt_natCast, BitVec.toNat_ofNat]; omega
    rw [this]
  show IntKind.u64.wrap ((BitVec.ofInt 64 (m : Int) &&& BitVec.ofInt 64 3).toNat : Int) = _
  rw [e, wrap_u64 (by omega) (by omega)]
  omega
def shr (x : Int) (k : Int) : Int := x.fdiv (2 ^ (min k.toNat 64))
def cellV (bits : List Int) (i : Int) : Int := (shr (bits.getD (i.tdiv 32).toNat 0) (2 * i.tmod 32)) % 4
def u64ok (l : List Int) : Prop := ∀ x ∈ l, 0 ≤ x ∧ x < 18446744073709551616
theorem shr_le {x k : Int} (h0 : 0 ≤ x) (h1 : x < 18446744073709551616) : 0 ≤ shr x k ∧ shr x k < 18446744073709551616 := by
  unfold shr
  rw [Int.fdiv_eq_ediv_of_nonneg _ (by exact Int.le_of_lt (Int.pow_pos (by decide)))]
  refine ⟨Int.ediv_nonneg h0 (Int.le_of_lt (Int.pow_pos (by decide))), ?_⟩
  have := Int.ediv_le_self (2 ^ (min k.toNat 64)) h0
  omega
theorem Rw.ok_len {r : Rw} (h : r.ok = true) : 0 ≤ r.n ∧ r.n ≤ 4096 ∧ (r.bits.length : Int) = (r.n + 31) / 32 := by
  simp only [Rw.ok, Bool.and_eq_true, decide_eq_true_eq] at h
  exact ⟨h.1.1.1, h.1.1.2, by rw [← wordsN_eq h.1.1.1]; exact h.1.2⟩
def rget (r : Rw) (i : Int) : Int × Int := if r.ok then (if i < 0 ∨ r.n ≤ i then (0, 2) else (cellV r.bits i, 0)) else (0, 3)
theorem rows_Get (r : Rw) (i : Int) (hu : u64ok r.bits) : PS F_rows_Get [.agg r.c, I i] (pr (rget r i)) := by
  (refine pspec' mixed w_rows_Get (by simp) (by first | rfl | simp [V.bd, bds, bdss]) fun _ => ?_; unfold c_rows_Get r_rows_Get)
  (repeat' (first | simp -implicitDefEqProofs (disch := omega) only [go_sem, ↓reduceIte, Rw.c] | (((first | with_reducible apply cnd_c | with_reducible apply grd_c | with_reducible apply pck_c) <;> intro wh <;> (try rewrite [wh]) <;> try simp only [wdw] at wh) <;> (try (revert wh; intro _)) <;> try (exfalso; omega)) | refine andi ?_ | ((with_reducible refine callM_id ?_); refine callM_i (rows_Check r) ?_) | fail))
  case false.false.false h h0 h1 =>
    have ho : r.ok = true := by
      cases hb : r.ok with
      | true => rfl
      | false => simp [hb] at h
    obtain ⟨hn0, hn1, hl⟩ := Rw.ok_len ho
    have e1 : i.tdiv 32 = i / 32 := Int.tdiv_eq_ediv_of_nonneg h0
    have e2 : i.tmod 32 = i % 32 := Int.tmod_eq_emod_of_nonneg h0
    have hlt : (i.tdiv 32).toNat < r.bits.length := by rw [e1]; omega
    have hg : r.bits.getD (i.tdiv 32).toNat 0 = r.bits[(i.tdiv 32).toNat] := by rw [List.getD_eq_getElem?_getD, getq hlt]; rfl
    have hb := hu _ (List.getElem_mem hlt)
    have hs := shr_le (k := 2 * i.tmod 32) hb.1 hb.2
    unfold shr at hs
    have h64 : IntKind.u64.bits = 64 := rfl
    (repeat' (first | simp -implicitDefEqProofs (disch := omega) only [go_sem, ↓reduceIte, getq hlt, h64] | (((first | with_reducible apply cnd_c | with_reducible apply grd_c | with_reducible apply pck_c) <;> intro wh <;> (try rewrite [wh]) <;> try simp only [wdw] at wh) <;> (try (revert wh; intro _)) <;> try (exfalso; omega)) | refine andi ?_ | fail))
    rw [and3 hs.1 hs.2, wrap_i64 (by omega) (by omega)]
    simp only [rget, ho, if_true, show ¬ (i < 0 ∨ r.n ≤ i) by omega, if_false, pr, cellV, shr, hg]
  case false.false.true h h0 h1 =>
    have ho : r.ok = true := by
      cases hb : r.ok with
      | true => rfl
      | false => simp [hb] at h
    simp [rget, ho, h1, pr]
  case false.true h h0 =>
    have ho : r.ok = true := by
      cases hb : r.ok with
      | true => rfl
      | false => simp [hb] at h
    simp [rget, ho, h0, pr]
  case true h =>
    have ho : r.ok = false := by
      cases hb : r.ok with
      | false => rfl
      | true => simp [hb] at h
    simp [rget, ho, pr]
end Go.Proofs.Fathom
