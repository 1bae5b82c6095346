/- A part of the proof of 'Rows.QueryReadUptoSaid': for every text and every seeds (of bulk at most 1048576 together) fathomlaw19.QueryRead returns true and its arguments read afterwards as before. -/
import Derived.Test.YtaikjbfkbijlnaaGreatF18
set_option linter.unusedVariables false
set_option linter.unusedSimpArgs false
namespace Go.Proofs.Fathom
open Go Go.Proofs
attribute [local irreducible] PSpec CSpec
def cellsN (bits : List Int) (k : Nat) : List Int := (List.range k).map fun (i : Nat) => cellV bits (i : Int)
def Rw.len_ok (r : Rw) : Bool := decide (0 ≤ r.n) && decide (r.n ≤ 4096) && decide ((r.bits.length : Int) = wordsN r.n)
def Rw.ok2 (r : Rw) : Bool := r.len_ok && (List.range (32 * r.bits.length)).all fun (i : Nat) => decide ((i : Int) < r.n) || decide (cellV r.bits (i : Int) = 0)
def cellsR (n : Nat) (r : Rw) : V := if r.ok2 then .tup [.row n r.n.toNat 1 0 r.n.toNat, .bool true] else .tup [.sl .no 1 [], .bool false]
def cellsO (n : Nat) (r : Rw) : List (Nat × AObj) := if r.ok2 then [(n, .row 1 (ints (cellsN r.bits r.n.toNat)))] else []
def cellsX (n : Nat) (r : Rw) : Nat := if r.ok2 then n + 1 else n
theorem ref02_Cells (n : Nat) (r : Rw) (hu : u64ok r.bits) : CS F_fathomref02_Cells [.agg r.c] [] n (cellsR n r) (cellsO n r) (cellsX n r) := by
  refine cspec' mixed w_fathomref02_Cells (by simp) (by unfold cellsR cellsX; split <;> simp [V.bd, bds, bdss]) (by unfold cellsX; split <;> omega) (by unfold cellsO cellsX; split <;> simp [AObj.bd, ints_bd]) ?_
  unfold c_fathomref02_Cells r_fathomref02_Cells
  rw [ov_nil]
  (repeat' (first | simp -implicitDefEqProofs (disch := omega) only [go_sem, ↓reduceIte, Rw.c] | (((first | with_reducible apply cnd_c | with_reducible apply grd_c | with_reducible apply pck_c) <;> intro wh <;> (try rewrite [wh]) <;> try simp only [wdw] at wh) <;> (try (revert wh; intro _)) <;> try (exfalso; omega)) | refine andi ?_ | fail))
  case false.false.false h0 h1 hl =>
    have hw := wordsN_eq h0
    have hl' : (r.bits.length : Int) = wordsN r.n := by
      rw [wrap_i64] at hl
      · exact hl
      · unfold wordsN at hw; omega
      · unfold wordsN at hw; omega
    have hlo : r.len_ok = true := by simp [Rw.len_ok, h0, h1, hl']
    refine loop_rule (fun i : Nat => ⟨ofL [(1, .cref r.c), (4, .row n (min i r.n.toNat) 1 0 (min i r.n.toNat)), (5, I i)], upd (fun _ => none) n (some (.row 1 (ints (cellsN r.bits (min i r.n.toNat))))), n + 1, 57, n⟩) (fun i => 32 * r.bits.length - i)
      (fun i => i ≤ 32 * r.bits.length ∧ ∀ j : Nat, j < i → r.n ≤ j → cellV r.bits j = 0) 0 (by simp [cellsN, ints, Rw.c]) ⟨by omega, by omega⟩ fun i ⟨hi, hz⟩ => ?_
    (simp -implicitDefEqProofs (disch := omega) only [go_sem, ↓reduceIte, Rw.c])
    (repeat (with_reducible apply And.intro; next => omega))
    ((first | with_reducible apply cnd_c | with_reducible apply grd_c | with_reducible apply pck_c) <;> intro h <;> (try rewrite [h]) <;> try simp only [wdw] at h)
    · (repeat' (first | simp -implicitDefEqProofs (disch := omega) only [go_sem, ↓reduceIte] | (((first | with_reducible apply cnd_c | with_reducible apply grd_c | with_reducible apply pck_c) <;> intro wh <;> (try rewrite [wh]) <;> try simp only [wdw] at wh) <;> (try (revert wh; intro _)) <;> try (exfalso; omega)) | refine andi ?_ | fail))
      have hk : min i r.n.toNat = r.n.toNat := by omega
      have ho : r.ok2 = true := by
        simp only [Rw.ok2, hlo, Bool.true_and, List.all_eq_true, List.mem_range, Bool.or_eq_true, decide_eq_true_eq]
        intro j hj
        by_cases hjn : (j : Int) < r.n
        · exact .inl hjn
        · exact .inr (hz j (by omega) (by omega))
      simp [cellsR, cellsO, cellsX, ho, hk, upd_same']
    · have e1 : (i : Int).tdiv 32 = (i : Int) / 32 := Int.tdiv_eq_ediv_of_nonneg (by omega)
      have e2 : (i : Int).tmod 32 = (i : Int) % 32 := Int.tmod_eq_emod_of_nonneg (by omega)
      have hlt : ((i : Int).tdiv 32).toNat < r.bits.length := by rw [e1]; omega
      have hg : r.bits.getD ((i : Int).tdiv 32).toNat 0 = r.bits[((i : Int).tdiv 32).toNat] := by rw [List.getD_eq_getElem?_getD, getq hlt]; rfl
      have hb := hu _ (List.getElem_mem hlt)
      have hs := shr_le (k := 2 * (i : Int).tmod 32) hb.1 hb.2
      unfold shr at hs
      have h64 : IntKind.u64.bits = 64 := rfl
      have hw2 : IntKind.u64.wrap (2 * (i : Int).tmod 32) = 2 * (i : Int).tmod 32 := wrap_u64 (by omega) (by omega)
      have ha := and3 hs.1 hs.2
      have hcv : (r.bits[((i : Int).tdiv 32).toNat].fdiv (2 ^ min (2 * (i : Int).tmod 32).toNat 64)) % 4 = cellV r.bits i := by simp only [cellV, shr, hg]
      (repeat' (first | simp -implicitDefEqProofs (disch := omega) only [go_sem, ↓reduceIte, Rw.c, getq hlt, h64, hw2, ha, hcv] | (((first | with_reducible apply cnd_c | with_reducible apply grd_c | with_reducible apply pck_c) <;> intro wh <;> (try rewrite [wh]) <;> try simp only [wdw] at wh) <;> (try (revert wh; intro _)) <;> try (exfalso; omega)) | refine andi ?_ | fail))
      · rename_i hn hc
        have hk : min (i + 1) r.n.toNat = min i r.n.toNat := by omega
        refine ⟨i + 1, ⟨by omega, fun j hj hjn => ?_⟩, by omega, ?_⟩
        · by_cases hji : j = i
          · subst hji; exact hc
          · exact hz j (by omega) hjn
        · rw [hk]; simp [Rw.c]
      · rename_i hn hc
        have ho : r.ok2 = false := by
          cases hb : r.ok2 with
          | false => rfl
          | true =>
            simp only [Rw.ok2, hlo, Bool.true_and, List.all_eq_true, List.mem_range, Bool.or_eq_true, decide_eq_true_eq] at hb
            rcases hb i (by omega) with h | h
            · omega
            · exact absurd h hc
        simp [cellsR, cellsO, cellsX, ho]
      · rename_i hn
        have hk : min i r.n.toNat = i := by omega
        have hk2 : min (i + 1) r.n.toNat = i + 1 := by omega
        have he : ints (cellsN r.bits i) ++ [[V.int .i64 (cellV r.bits i)]] = ints (cellsN r.bits (i + 1)) := by
          simp [ints, cellsN, List.range_succ]
        have hlen : (cellsN r.bits i).length = i := by simp [cellsN]
        rw [hk, hlen]
        refine ⟨by omega, i + 1, ⟨by omega, fun j hj hjn => ?_⟩, by omega, ?_⟩
        · by_cases hji : j = i
          · subst hji; omega
          · exact hz j (by omega) hjn
        · rw [hk2, he]; simp [Rw.c]
  case false.false.true h0 h1 hl =>
    have hw := wordsN_eq h0
    have hl' : ¬ (r.bits.length : Int) = wordsN r.n := by
      rw [wrap_i64] at hl
      · exact hl
      · unfold wordsN at hw; omega
      · unfold wordsN at hw; omega
    have ho : r.ok2 = false := by simp [Rw.ok2, Rw.len_ok, hl']
    simp [cellsR, cellsO, cellsX, ho]
  case false.true h0 h1 =>
    have ho : r.ok2 = false := by simp [Rw.ok2, Rw.len_ok, show ¬ r.n ≤ 4096 by omega]
    simp [cellsR, cellsO, cellsX, ho]
  case true h0 =>
    have ho : r.ok2 = false := by simp [Rw.ok2, Rw.len_ok, show ¬ 0 ≤ r.n by omega]
    simp [cellsR, cellsO, cellsX, ho]
end Go.Proofs.Fathom
set_option linter.unusedVariables false
set_option linter.unusedSimpArgs false
namespace Go.Proofs.Fathom
open Go Go.Proofs
attribute [local irreducible] PSpec CSpec
theorem ref16_copied (k : Tok) (l : List Int) (hl : l.length ≤ 1000000000) : PS F_fathomref16_copied [.sl k 1 (ints l)] (.sl .no 1 (ints l)) := by
  refine pspec' mixed w_fathomref16_copied (by simp) (by simp [V.bd, ints_bd]) fun n => ?_
  unfold c_fathomref16_copied r_fathomref16_copied
  (repeat' (first | simp -implicitDefEqProofs (disch := omega) only [go_sem, ↓reduceIte] | (((first | with_reducible apply cnd_c | with_reducible apply grd_c | with_reducible apply pck_c) <;> intro wh <;> (try rewrite [wh]) <;> try simp only [wdw] at wh) <;> (try (revert wh; intro _)) <;> try (exfalso; omega)) | refine andi ?_ | fail))
  omega
end Go.Proofs.Fathom
set_option linter.unusedVariables false
set_option linter.unusedSimpArgs false
namespace Go.Proofs.Fathom
open Go Go.Proofs
attribute [local irreducible] PSpec CSpec
def Tb.rw (t : Tb) : Rw := ⟨t.n, t.bits⟩
theorem cellsN_len (b : List Int) (k : Nat) : (cellsN b k).length = k := by simp [cellsN]
theorem cells_ok {n : Nat} {r : Rw} (h : r.ok2 = true) (hu : u64ok r.bits) : CS F_fathomref02_Cells [.agg r.c] [] n (.tup [.row n r.n.toNat 1 0 r.n.toNat, .bool true]) [(n, .row 1 (ints (cellsN r.bits r.n.toNat)))] (n + 1) := by
  have := ref02_Cells n r hu
  simpa only [cellsR, cellsO, cellsX, h, if_true] using this
theorem Rw.ok2_n {r : Rw} (h : r.ok2 = true) : 0 ≤ r.n ∧ r.n ≤ 4096 := by
  simp only [Rw.ok2, Rw.len_ok, Bool.and_eq_true, decide_eq_true_eq] at h
  exact ⟨h.1.1.1, h.1.1.2⟩
theorem ref16_Points (n : Nat) (t : Tb) (hu : u64ok t.bits) (hl : t.params.length ≤ 1000000000) (ho : t.rw.ok2 = true) (hc : tcount 1 t.params = (t.n, 0)) (ht : 0 ≤ rtop t.typ) (hle : ∀ c ∈ cellsN t.bits t.n.toNat, c ≤ rtop t.typ) :
    CS F_fathomref16_Points [.agg t.c] [] n (.tup [.row n t.n.toNat 1 0 t.n.toNat, .bool true]) [(n, .row 1 (ints (cellsN t.bits t.n.toNat)))] (n + 1) := by
  refine cspec' mixed w_fathomref16_Points (by simp) (by simp [V.bd, bds]) (by omega) (by simp [AObj.bd, ints_bd]) ?_
  unfold c_fathomref16_Points r_fathomref16_Points
  rw [ov_nil]
  have h0 : 0 ≤ t.n ∧ t.n ≤ 4096 := Rw.ok2_n ho
  have hn : (t.n.toNat : Int) = t.n := Int.toNat_of_nonneg h0.1
  (repeat' (first | simp -implicitDefEqProofs (disch := omega) only [go_sem, ↓reduceIte, Tb.c, hc, pr] | (((first | with_reducible apply cnd_c | with_reducible apply grd_c | with_reducible apply pck_c) <;> intro wh <;> (try rewrite [wh]) <;> try simp only [wdw] at wh) <;> (try (revert wh; intro _)) <;> try (exfalso; omega)) | refine andi ?_ | ((with_reducible refine callM_id ?_); refine callM_i (ref16_Count' _ t.params hl) ?_) | ((with_reducible refine callM_id ?_); refine callM_i (ref15_Top _) ?_) | fail))
  refine ecall_n (cells_ok ho hu) (by simp) (by omega) ?_
  (repeat' (first | simp -implicitDefEqProofs (disch := omega) only [go_sem, ↓reduceIte, Tb.c, Tb.rw, ints_len, cellsN_len, hn] | (((first | with_reducible apply cnd_c | with_reducible apply grd_c | with_reducible apply pck_c) <;> intro wh <;> (try rewrite [wh]) <;> try simp only [wdw] at wh) <;> (try (revert wh; intro _)) <;> try (exfalso; omega)) | refine andi ?_ | ((with_reducible refine callM_id ?_); refine callM_i (ref15_Top _) ?_) | fail))
  case false h =>
    refine loop_rule (fun i : Nat => ⟨ofL [(1, .cref t.c), (4, I t.n), (6, .row n t.n.toNat 1 0 t.n.toNat), (8, I i)], upd (fun _ => none) n (some (.row 1 (ints (cellsN t.bits t.n.toNat)))), n + 1, 53, n⟩) (fun i => t.n.toNat - i)
      (fun i => i ≤ t.n.toNat) 0 rfl (by omega) fun i hi => ?_
    (simp -implicitDefEqProofs (disch := omega) only [go_sem, ↓reduceIte])
    ((first | with_reducible apply cnd_c | with_reducible apply grd_c | with_reducible apply pck_c) <;> intro h1 <;> (try rewrite [h1]) <;> try simp only [wdw] at h1)
    · (repeat' (first | simp -implicitDefEqProofs (disch := omega) only [go_sem, ↓reduceIte] | (((first | with_reducible apply cnd_c | with_reducible apply grd_c | with_reducible apply pck_c) <;> intro wh <;> (try rewrite [wh]) <;> try simp only [wdw] at wh) <;> (try (revert wh; intro _)) <;> try (exfalso; omega)) | refine andi ?_ | fail))
    · have hlt : i < (cellsN t.bits t.n.toNat).length := by rw [cellsN_len]; omega
      (repeat' (first | simp -implicitDefEqProofs (disch := omega) only [go_sem, ↓reduceIte, Tb.c, getq hlt, cellsN_len, hn] | (((first | with_reducible apply cnd_c | with_reducible apply grd_c | with_reducible apply pck_c) <;> intro wh <;> (try rewrite [wh]) <;> try simp only [wdw] at wh) <;> (try (revert wh; intro _)) <;> try (exfalso; omega)) | refine andi ?_ | ((with_reducible refine callM_id ?_); refine callM_i (ref15_Top _) ?_) | fail))
      · rename_i h2
        exact ⟨i + 1, by omega, by omega, by simp [Tb.c]⟩
      · rename_i h2
        have := hle _ (List.getElem_mem hlt)
        omega
end Go.Proofs.Fathom
set_option linter.unusedVariables false
set_option linter.unusedSimpArgs false
namespace Go.Proofs.Fathom
open Go Go.Proofs
attribute [local irreducible] PSpec CSpec
/-- The points of a tuple's number, the last ones first. -/
def tdig : List Int → Int → List Int × Int
  | [], n => ([], n)
  | t :: l, n => ((tdig l n).2 % (rtop t + 1) :: (tdig l n).1, (tdig l n).2 / (rtop t + 1))
theorem tdig_len : ∀ (l : List Int) (n : Int), (tdig l n).1.length = l.length
  | [], _ => rfl
  | t :: l, n => by simp [tdig, tdig_len l n]
theorem rtop_ok {t : Int} (h : topE t = 0) : 1 ≤ rtop t ∧ rtop t ≤ 3 := by
  unfold topE at h; unfold rtop
  split at h
  · rename_i h1; rw [if_pos h1]; omega
  · rename_i h1
    rw [if_neg h1]
    split at h
    · rename_i h2; rw [if_pos h2]; omega
    · omega
theorem tdig_rest : ∀ (l : List Int) (n : Int), 0 ≤ n → (∀ t ∈ l, topE t = 0) → 0 ≤ (tdig l n).2 ∧ (tdig l n).2 ≤ n
  | [], n, h, _ => ⟨h, Int.le_refl _⟩
  | t :: l, n, h, ht => by
    have ih := tdig_rest l n h fun x hx => ht x (by simp [hx])
    have := rtop_ok (ht t (by simp))
    simp only [tdig]
    have h1 : 0 ≤ (tdig l n).2 / (rtop t + 1) := Int.ediv_nonneg ih.1 (by omega)
    have h2 : (tdig l n).2 / (rtop t + 1) ≤ (tdig l n).2 := Int.ediv_le_self _ ih.1
    exact ⟨h1, by omega⟩
theorem ref16_Tuple (n : Nat) (k : Tok) (ps : List Int) (m : Int) (hl : ps.length ≤ 1000000000) (hc : (tcount 1 ps).2 = 0) (h0 : 0 ≤ m) (h1 : m < (tcount 1 ps).1) :
    CS F_fathomref16_Tuple [.sl k 1 (ints ps), I m] [] n (.tup [.row n ps.length 1 0 ps.length, I 0]) [(n, .row 1 (ints (tdig ps m).1))] (n + 1) := by
  refine cspec' mixed w_fathomref16_Tuple (by simp) (by simp [V.bd, bds]) (by omega) (by simp [AObj.bd, ints_bd]) ?_
  unfold c_fathomref16_Tuple r_fathomref16_Tuple
  rw [ov_nil]
  obtain ⟨hok, hp1, hp2⟩ := tcount_ok ps 1 (by omega) (by omega) hc
  (repeat' (first | simp -implicitDefEqProofs (disch := omega) only [go_sem, ↓reduceIte, hc, pr] | (((first | with_reducible apply cnd_c | with_reducible apply grd_c | with_reducible apply pck_c) <;> intro wh <;> (try rewrite [wh]) <;> try simp only [wdw] at wh) <;> (try (revert wh; intro _)) <;> try (exfalso; omega)) | refine andi ?_ | ((with_reducible refine callM_id ?_); refine callM_i (ref16_Count' _ ps hl) ?_) | ((with_reducible refine callM_id ?_); refine callM_i (ref15_Top _) ?_) | fail))
  refine loop_rule (fun j : Nat => ⟨ofL [(0, .sl k 1 (ints ps)), (1, I (tdig (ps.drop j) m).2), (8, .row n ps.length 1 0 ps.length), (9, I (j - 1))], upd (fun _ => none) n (some (.row 1 (ints (List.replicate j 0 ++ (tdig (ps.drop j) m).1)))), n + 1, 52, n⟩) (fun j => j)
    (fun j => j ≤ ps.length) ps.length (by simp [tdig, ints]) (Nat.le_refl _) fun j hj => ?_
  (simp -implicitDefEqProofs (disch := omega) only [go_sem, ↓reduceIte])
  ((first | with_reducible apply cnd_c | with_reducible apply grd_c | with_reducible apply pck_c) <;> intro h <;> (try rewrite [h]) <;> try simp only [wdw] at h)
  · have hj0 : j = 0 := by omega
    subst hj0
    (repeat' (first | simp -implicitDefEqProofs (disch := omega) only [go_sem, ↓reduceIte] | (((first | with_reducible apply cnd_c | with_reducible apply grd_c | with_reducible apply pck_c) <;> intro wh <;> (try rewrite [wh]) <;> try simp only [wdw] at wh) <;> (try (revert wh; intro _)) <;> try (exfalso; omega)) | refine andi ?_ | fail))
    simp
  · obtain ⟨j, rfl⟩ : ∃ i, j = i + 1 := ⟨j - 1, by omega⟩
    have hlt : j < ps.length := by omega
    have e1 : ((j + 1 : Nat) : Int) - 1 = j := by omega
    have hr := rtop_ok (hok _ (List.getElem_mem hlt))
    have hd := tdig_rest (ps.drop (j + 1)) m h0 fun t ht => hok t (List.mem_of_mem_drop ht)
    have hdr : ps.drop j = ps[j] :: ps.drop (j + 1) := List.drop_eq_getElem_cons hlt
    have hlen := tdig_len (ps.drop (j + 1)) m
    have e2 : ((tdig (ps.drop (j + 1)) m).2).tmod (rtop ps[j] + 1) = (tdig (ps.drop (j + 1)) m).2 % (rtop ps[j] + 1) := Int.tmod_eq_emod_of_nonneg hd.1
    have e3 : ((tdig (ps.drop (j + 1)) m).2).tdiv (rtop ps[j] + 1) = (tdig (ps.drop (j + 1)) m).2 / (rtop ps[j] + 1) := Int.tdiv_eq_ediv_of_nonneg hd.1
    have h4 : 0 ≤ (tdig (ps.drop (j + 1)) m).2 / (rtop ps[j] + 1) := Int.ediv_nonneg hd.1 (by omega)
    have h5 : (tdig (ps.drop (j + 1)) m).2 / (rtop ps[j] + 1) ≤ (tdig (ps.drop (j + 1)) m).2 := Int.ediv_le_self _ hd.1
    have hL : (List.replicate (j + 1) (0 : Int) ++ (tdig (ps.drop (j + 1)) m).1).length = ps.length := by
      rw [List.length_append, List.length_replicate, hlen, List.length_drop]; omega
    have hG : (List.replicate (j + 1) (0 : Int) ++ (tdig (ps.drop (j + 1)) m).1)[j]? = some 0 := by
      rw [List.getElem?_append_left (by simp)]
      simp
    have hS : ∀ x, (ints (List.replicate (j + 1) (0 : Int) ++ (tdig (ps.drop (j + 1)) m).1)).set j [V.int .i64 x] = ints (List.replicate j 0 ++ x :: (tdig (ps.drop (j + 1)) m).1) := fun x => by
      simp only [ints, ← List.map_set (f := fun s => [V.int .i64 s])]
      congr 1
      rw [List.set_append_left _ _ (by simp), List.replicate_succ', List.set_append_right _ _ (by simp)]
      simp
    (repeat' (first | simp -implicitDefEqProofs (disch := omega) only [go_sem, ↓reduceIte, e1, getq hlt, e2, hL, hG, hS, e3] | (((first | with_reducible apply cnd_c | with_reducible apply grd_c | with_reducible apply pck_c) <;> intro wh <;> (try rewrite [wh]) <;> try simp only [wdw] at wh) <;> (try (revert wh; intro _)) <;> try (exfalso; omega)) | refine andi ?_ | ((with_reducible refine callM_id ?_); refine callM_i (ref15_Top _) ?_) | fail))
    refine ⟨j, by omega, by omega, ?_⟩
    rw [hdr]
    simp [tdig]
end Go.Proofs.Fathom
set_option linter.unusedVariables false
namespace Go.Proofs.Fathom
open Go
def wv : List Int → Int
  | [] => 0
  | d :: r => d + 4 * wv r
def pts4 (l : List Int) : Prop := ∀ p ∈ l, 0 ≤ p ∧ p < 4
theorem wv_snoc : ∀ (c : List Int) (p : Int), wv (c ++ [p]) = wv c + p * 4 ^ c.length
  | [], p => by simp [wv]
  | d :: r, p => by
    simp only [List.cons_append, wv, wv_snoc r p, List.length_cons, Int.pow_succ]
    rw [Int.mul_add, ← Int.mul_assoc, Int.mul_comm 4 p, Int.mul_assoc p 4, Int.mul_comm 4 (4 ^ r.length), Int.add_assoc]
theorem wv_bd : ∀ (c : List Int), pts4 c → 0 ≤ wv c ∧ wv c < 4 ^ c.length
  | [], _ => by simp [wv]
  | d :: r, h => by
    have ih := wv_bd r fun p hp => h p (by simp [hp])
    have hd := h d (by simp)
    simp only [wv, List.length_cons, Int.pow_succ]
    omega
theorem wv_get : ∀ (c : List Int) (i : Nat), pts4 c → (wv c / 4 ^ i) % 4 = c.getD i 0
  | [], i, _ => by simp [wv]
  | d :: r, 0, h => by
    have hd := h d (by simp)
    simp only [wv, Int.pow_zero, List.getD_cons_zero]
    omega
  | d :: r, i + 1, h => by
    have hd := h d (by simp)
    have ih := wv_get r i fun p hp => h p (by simp [hp])
    simp only [wv, List.getD_cons_succ]
    rw [← ih, Int.pow_succ, Int.mul_comm (4 ^ i) 4, ← Int.ediv_ediv_of_nonneg (by omega : (0 : Int) ≤ 4)]
    have : (d + 4 * wv r) / 4 = wv r := by omega
    rw [this]
def packB (l : List Int) : List Int := (List.range ((l.length + 31) / 32)).map fun j => wv ((l.drop (32 * j)).take 32)
theorem packB_len (l : List Int) : (packB l).length = (l.length + 31) / 32 := by simp [packB]
theorem pts4_sub {l : List Int} (h : pts4 l) (j : Nat) : pts4 ((l.drop j).take 32) := fun p hp => h p (List.mem_of_mem_drop (List.mem_of_mem_take hp))
theorem packB_get (l : List Int) (j : Nat) : (packB l).getD j 0 = wv ((l.drop (32 * j)).take 32) := by
  rw [List.getD_eq_getElem?_getD]
  simp only [packB, List.getElem?_map]
  by_cases h : j < (l.length + 31) / 32
  · rw [List.getElem?_range h]; rfl
  · rw [List.getElem?_eq_none (by simp; omega), List.drop_eq_nil_of_le (by omega)]; rfl
theorem packB_u64 {l : List Int} (h : pts4 l) : u64ok (packB l) := by
  intro x hx
  simp only [packB, List.mem_map] at hx
  obtain ⟨j, _, rfl⟩ := hx
  have h1 := wv_bd _ (pts4_sub h (32 * j))
  have h2 : ((l.drop (32 * j)).take 32).length ≤ 32 := by simp; omega
  have h3 : (4 : Int) ^ ((l.drop (32 * j)).take 32).length ≤ 4 ^ 32 := by
    exact_mod_cast Nat.pow_le_pow_right (by omega) h2
  have h4 : (4 : Int) ^ 32 = 18446744073709551616 := by decide
  omega
theorem packB_step (l : List Int) (p : Int) : (if l.length % 32 = 0 then packB l ++ [0] else packB l).set (l.length / 32) (wv ((l.drop (32 * (l.length / 32))).take 32) + p * 4 ^ (l.length % 32)) = packB (l ++ [p]) := by
  apply List.ext_getElem?
  intro j
  have hlen : (if l.length % 32 = 0 then packB l ++ [0] else packB l).length = (l.length + 1 + 31) / 32 := by
    split
    · simp [packB_len]; omega
    · rw [packB_len]; omega
  have hR : (packB (l ++ [p]))[j]? = if j < (l.length + 1 + 31) / 32 then some (wv (((l ++ [p]).drop (32 * j)).take 32)) else none := by
    simp only [packB, List.getElem?_map, List.length_append, List.length_cons, List.length_nil]
    split
    · rename_i h; rw [List.getElem?_range (by omega)]; rfl
    · rename_i h; rw [List.getElem?_eq_none (by simp; omega)]; rfl
  rw [hR]
  by_cases hj : j = l.length / 32
  · subst hj
    rw [List.getElem?_set_self (by rw [hlen]; omega), if_pos (by omega)]
    rw [List.drop_append_of_le_length (by omega)]
    have hd : (l.drop (32 * (l.length / 32))).length = l.length % 32 := by rw [List.length_drop]; omega
    rw [List.take_of_length_le (by omega), List.take_of_length_le (by simp; omega), wv_snoc, hd]
  · rw [List.getElem?_set_ne (fun h => hj h.symm)]
    have hget : (if l.length % 32 = 0 then packB l ++ [0] else packB l)[j]? = if j < (l.length + 1 + 31) / 32 then (packB l)[j]? else none := by
      split
      · rename_i h0
        by_cases hjl : j < (packB l).length
        · rw [List.getElem?_append_left hjl, if_pos (by rw [packB_len] at hjl; omega)]
        · rw [packB_len] at hjl
          rw [if_neg (by omega), List.getElem?_eq_none (by simp [packB_len]; omega)]
      · rename_i h0
        split
        · rfl
        · rw [List.getElem?_eq_none (by rw [packB_len]; omega)]
    rw [hget]
    split
    · rename_i h
      simp only [packB, List.getElem?_map]
      rw [List.getElem?_range (by omega)]
      simp only [Option.map_some, Option.some.injEq]
      congr 1
      rw [List.drop_append_of_le_length (by omega), List.take_append_of_le_length (by rw [List.length_drop]; omega)]
    · rfl
theorem toNat64 (x : Nat) (h : x < 18446744073709551616) : (BitVec.ofInt 64 (x : Int)).toNat = x := by
  rw [BitVec.ofInt_natCast, BitVec.toNat_ofNat]
  exact Nat.mod_eq_of_lt h
theorem bitsv_or (x m : Nat) (hx : x < 18446744073709551616) (hm : m < 18446744073709551616) : bitsv .or .u64 x m = IntKind.u64.wrap ((x ||| m : Nat) : Int) := by
  show IntKind.u64.wrap ((BitVec.ofInt 64 (x : Int) ||| BitVec.ofInt 64 (m : Int)).toNat : Int) = _
  rw [BitVec.toNat_or, toNat64 x hx, toNat64 m hm]
theorem or_add {a p : Int} {s : Nat} (h0 : 0 ≤ a) (h1 : a < 4 ^ s) (h2 : 0 ≤ p) (h3 : p < 4) (hs : s < 32) : bitsv .or .u64 a (IntKind.u64.wrap (p * 2 ^ (min (2 * s) 64))) = a + p * 4 ^ s := by
  have e4 : (2 : Int) ^ (min (2 * s) 64) = 4 ^ s := by
    rw [show min (2 * s) 64 = 2 * s by omega, Int.pow_mul]; rfl
  rw [e4]
  obtain ⟨x, rfl⟩ := Int.eq_ofNat_of_zero_le h0
  obtain ⟨q, rfl⟩ := Int.eq_ofNat_of_zero_le h2
  have hx : x < 4 ^ s := by exact_mod_cast h1
  have hq : q < 4 := by omega
  have hp : 4 ^ s ≤ 4 ^ 31 := Nat.pow_le_pow_right (by omega) (by omega : s ≤ 31)
  have h31 : 4 ^ 31 = 4611686018427387904 := by decide
  have hcast : ((q : Int) * 4 ^ s) = ((q * 4 ^ s : Nat) : Int) := by push_cast; rfl
  rw [hcast]
  have hor : x ||| q * 4 ^ s = x + q * 4 ^ s := by
    have e2 : (4 : Nat) ^ s = 2 ^ (2 * s) := by rw [Nat.pow_mul]
    rw [e2] at hx ⊢
    have := Nat.shiftLeft_add_eq_or_of_lt hx q
    rw [Nat.shiftLeft_eq] at this
    rw [Nat.or_comm, ← this, Nat.add_comm]
  have hmul : q * 4 ^ s ≤ 3 * 4 ^ s := Nat.mul_le_mul_right _ (by omega)
  generalize hm : q * 4 ^ s = m at *
  have hw : IntKind.u64.wrap (m : Int) = m := Go.IntWalk.u64_in _ (by omega)
  rw [hw, bitsv_or x m (by omega) (by omega), hor]
  have := Go.IntWalk.u64_in ((x + m : Nat) : Int) (by omega)
  rw [this]
  push_cast
  rfl
end Go.Proofs.Fathom
set_option linter.unusedVariables false
set_option linter.unusedSimpArgs false
namespace Go.Proofs.Fathom
open Go Go.Proofs
attribute [local irreducible] PSpec CSpec
def packR (l : List Int) : Rw := ⟨l.length, packB l⟩
theorem ref02_Pack (k : Tok) (l : List Int) (hl : l.length ≤ 1000000) (h4 : pts4 l) : PS F_fathomref02_Pack [.sl k 1 (ints l)] (.agg (packR l).c) := by
  refine pspec' mixed w_fathomref02_Pack (by simp) (by simp [V.bd, bds, Rw.c, u64s_bd]) fun n => ?_
  unfold c_fathomref02_Pack r_fathomref02_Pack
  (repeat' (first | simp -implicitDefEqProofs (disch := omega) only [go_sem, ↓reduceIte] | (((first | with_reducible apply cnd_c | with_reducible apply grd_c | with_reducible apply pck_c) <;> intro wh <;> (try rewrite [wh]) <;> try simp only [wdw] at wh) <;> (try (revert wh; intro _)) <;> try (exfalso; omega)) | refine andi ?_ | fail))
  refine loop_rule (fun i : Nat => ⟨ofL [(0, .sl k 1 (ints l)), (2, .ptr n 0), (3, .ptr (n + 1) 0), (4, I i)], upd (upd (upd (fun _ => none) n (some (.cells [I 0, .sl .full 1 []]))) (n + 2) (some (.row 1 (u64s (packB (l.take i)))))) (n + 1) (some (.cells [I l.length, .row (n + 2) ((i + 31) / 32) 1 0 ((i + 31) / 32)])), n + 3, 45, n⟩) (fun i => l.length - i)
    (fun i => i ≤ l.length) 0 ?_ (by omega) fun i hi => ?_
  · simp only [packB, List.take_zero, List.length_nil]
    congr 1
    funext q
    simp only [upd]
    repeat' split
    all_goals first | rfl | omega
  (simp -implicitDefEqProofs (disch := omega) only [go_sem, ↓reduceIte, packB_len, u64s_len])
  ((first | with_reducible apply cnd_c | with_reducible apply grd_c | with_reducible apply pck_c) <;> intro h <;> (try rewrite [h]) <;> try simp only [wdw] at h)
  · have hi2 : i = l.length := by omega
    subst hi2
    (repeat' (first | simp -implicitDefEqProofs (disch := omega) only [go_sem, ↓reduceIte] | (((first | with_reducible apply cnd_c | with_reducible apply grd_c | with_reducible apply pck_c) <;> intro wh <;> (try rewrite [wh]) <;> try simp only [wdw] at wh) <;> (try (revert wh; intro _)) <;> try (exfalso; omega)) | refine andi ?_ | fail))
    rw [List.take_length, packB_len]
    refine ⟨rfl, ?_⟩
    rw [List.take_of_length_le (by rw [u64s_len, packB_len]; omega)]
    rfl
  · have hlt : i < l.length := by omega
    have e1 : (i : Int).tmod 32 = (i : Int) % 32 := Int.tmod_eq_emod_of_nonneg (by omega)
    have e2 : (i : Int).tdiv 32 = (i : Int) / 32 := Int.tdiv_eq_ediv_of_nonneg (by omega)
    have e3 : ((i : Int) / 32).toNat = i / 32 := by omega
    have hti : (l.take i).length = i := by rw [List.length_take]; omega
    have hA : (packB (l.take i)).length = (i + 31) / 32 := by rw [packB_len, hti]
    have hp := h4 _ (List.getElem_mem hlt)
    have e5 : IntKind.u64.wrap l[i] = l[i] := wrap_u64 (by omega) (by omega)
    have e6 : IntKind.u64.wrap (2 * ((i : Int) % 32)) = 2 * ((i : Int) % 32) := wrap_u64 (by omega) (by omega)
    have e7 : (2 * ((i : Int) % 32)).toNat = 2 * (i % 32) := by omega
    have h64 : IntKind.u64.bits = 64 := rfl
    have hst := packB_step (l.take i) l[i]
    rw [hti] at hst
    have hw := wv_bd _ (pts4_sub (l := l.take i) (fun p hp => h4 p (List.mem_of_mem_take hp)) (32 * (i / 32)))
    have hcl : (((l.take i).drop (32 * (i / 32))).take 32).length = i % 32 := by rw [List.length_take, List.length_drop, hti]; omega
    rw [hcl] at hw
    have hor := or_add hw.1 hw.2 hp.1 hp.2 (Nat.mod_lt i (by omega))
    have htk : l.take i ++ [l[i]] = l.take (i + 1) := take_snoc hlt
    rw [htk] at hst
    (repeat' (first | simp -implicitDefEqProofs (disch := omega) only [go_sem, ↓reduceIte, e1, e2, e3, hA, e5, e6, e7, h64, getq hlt] | (((first | with_reducible apply cnd_c | with_reducible apply grd_c | with_reducible apply pck_c) <;> intro wh <;> (try rewrite [wh]) <;> try simp only [wdw] at wh) <;> (try (revert wh; intro _)) <;> try (exfalso; omega)) | refine andi ?_ | fail))
    · rename_i h0
      have hne : ¬ i % 32 = 0 := by omega
      rw [if_neg hne] at hst
      have hg : (packB (l.take i))[i / 32]? = some (wv (((l.take i).drop (32 * (i / 32))).take 32)) := by
        rw [← packB_get, List.getD_eq_getElem?_getD, getq (by rw [hA]; omega)]; rfl
      (repeat' (first | simp -implicitDefEqProofs (disch := omega) only [go_sem, ↓reduceIte, e1, e2, e3, hA, hg, e5, e6, e7, h64, getq hlt, hor] | (((first | with_reducible apply cnd_c | with_reducible apply grd_c | with_reducible apply pck_c) <;> intro wh <;> (try rewrite [wh]) <;> try simp only [wdw] at wh) <;> (try (revert wh; intro _)) <;> try (exfalso; omega)) | refine andi ?_ | fail))
      refine ⟨i + 1, by omega, by omega, ?_⟩
      have hset : (u64s (packB (l.take i))).set (i / 32) [V.int .u64 (wv (((l.take i).drop (32 * (i / 32))).take 32) + l[i] * 4 ^ (i % 32))] = u64s (packB (l.take (i + 1))) := by
        rw [← hst]; simp only [u64s, List.map_set]
      rw [hset, show (i + 1 + 31) / 32 = (i + 31) / 32 by omega]
      congr 1
      funext q
      simp only [upd]
      repeat' split
      all_goals first | rfl | omega
    · rename_i h0
      have hne : i % 32 = 0 := by omega
      rw [if_pos hne] at hst
      have hch : ((l.take i).drop (32 * (i / 32))).take 32 = [] := List.eq_nil_of_length_eq_zero (by rw [hcl, hne])
      rw [hch] at hst hor
      have hB : (u64s (packB (l.take i)) ++ [[V.int .u64 0]]).length = (i + 31) / 32 + 1 := by rw [List.length_append, u64s_len, hA]; rfl
      have hg : (u64s (packB (l.take i)) ++ [[V.int .u64 0]])[i / 32]? = some [V.int .u64 0] := by
        rw [List.getElem?_append_right (by rw [u64s_len, hA]; omega), u64s_len, hA, show i / 32 - (i + 31) / 32 = 0 by omega]; rfl
      (repeat' (first | simp -implicitDefEqProofs (disch := omega) only [go_sem, ↓reduceIte, e1, e2, e3, hA, hB, hg, e5, e6, e7, h64, getq hlt, show bitsv BinOp.or IntKind.u64 0 (IntKind.u64.wrap (l[i] * 2 ^ min (2 * (i % 32)) 64)) = wv [] + l[i] * 4 ^ (i % 32) from hor] | (((first | with_reducible apply cnd_c | with_reducible apply grd_c | with_reducible apply pck_c) <;> intro wh <;> (try rewrite [wh]) <;> try simp only [wdw] at wh) <;> (try (revert wh; intro _)) <;> try (exfalso; omega)) | refine andi ?_ | fail))
      refine ⟨i + 1, by omega, by omega, ?_⟩
      have hset : (u64s (packB (l.take i)) ++ [[V.int .u64 0]]).set (i / 32) [V.int .u64 (wv [] + l[i] * 4 ^ (i % 32))] = u64s (packB (l.take (i + 1))) := by
        rw [← hst, show u64s (packB (l.take i)) ++ [[V.int .u64 0]] = u64s (packB (l.take i) ++ [0]) by simp [u64s]]
        simp only [u64s, List.map_set]
      rw [hset, show (i + 1 + 31) / 32 = (i + 31) / 32 + 1 by omega]
      congr 1
      funext q
      simp only [upd]
      repeat' split
      all_goals first | rfl | omega
end Go.Proofs.Fathom
set_option linter.unusedVariables false
namespace Go.Proofs.Fathom
open Go Go.Proofs
attribute [local irreducible] PSpec CSpec
theorem fdiv_nn {a b : Int} (h : 0 ≤ b) : a.fdiv b = a / b := by
  rw [Int.fdiv_eq_ediv_of_nonneg a h]
theorem cellV_pack {l : List Int} (h : pts4 l) (i : Nat) : cellV (packB l) (i : Int) = l.getD i 0 := by
  have e1 : ((i : Int).tdiv 32).toNat = i / 32 := by rw [Int.tdiv_eq_ediv_of_nonneg (by omega)]; omega
  have e2 : (2 * (i : Int).tmod 32).toNat = 2 * (i % 32) := by rw [Int.tmod_eq_emod_of_nonneg (by omega)]; omega
  unfold cellV shr
  rw [e1, e2, packB_get, show min (2 * (i % 32)) 64 = 2 * (i % 32) by omega, fdiv_nn (by exact_mod_cast Nat.zero_le _)]
  have e4 : (2 : Int) ^ (2 * (i % 32)) = 4 ^ (i % 32) := by rw [Int.pow_mul]; rfl
  rw [e4, wv_get _ _ (pts4_sub h _)]
  rw [List.getD_eq_getElem?_getD, List.getD_eq_getElem?_getD, List.getElem?_take, if_pos (Nat.mod_lt i (by omega)), List.getElem?_drop]
  rw [show 32 * (i / 32) + i % 32 = i by omega]
theorem packR_len {l : List Int} (hl : l.length ≤ 4096) : (packR l).len_ok = true := by
  have hw : wordsN (l.length : Int) = ((l.length : Int) + 31) / 32 := wordsN_eq (by omega)
  have en : (packR l).n = (l.length : Int) := rfl
  have eb : (packR l).bits = packB l := rfl
  simp only [Rw.len_ok, en, eb, Bool.and_eq_true, decide_eq_true_eq, packB_len, hw]
  exact ⟨⟨by omega, by omega⟩, by omega⟩
theorem packR_ok2 {l : List Int} (h : pts4 l) (hl : l.length ≤ 4096) : (packR l).ok2 = true := by
  simp only [Rw.ok2, packR_len hl, Bool.true_and, List.all_eq_true, List.mem_range, Bool.or_eq_true, decide_eq_true_eq]
  intro i hi
  by_cases hlt : (i : Int) < (packR l).n
  · exact .inl hlt
  · right
    show cellV (packB l) i = 0
    rw [cellV_pack h, List.getD_eq_getElem?_getD, List.getElem?_eq_none (by simp only [packR] at hlt; omega)]
    rfl
theorem cellsN_pack {l : List Int} (h : pts4 l) : cellsN (packB l) l.length = l := by
  apply List.ext_getElem?
  intro i
  simp only [cellsN, List.getElem?_map]
  by_cases hi : i < l.length
  · rw [List.getElem?_range hi, Option.map_some, cellV_pack h, List.getD_eq_getElem?_getD, getq hi]; rfl
  · rw [List.getElem?_eq_none (by simp; omega), List.getElem?_eq_none (by omega)]; rfl
theorem packR_ok {l : List Int} (h : pts4 l) (hl : l.length ≤ 4096) : (packR l).ok = true := by
  have h1 := packR_len hl
  simp only [Rw.len_ok] at h1
  simp only [Rw.ok, h1, Bool.true_and, Bool.or_eq_true, decide_eq_true_eq]
  have e2 : ((packR l).n).tmod 32 = (l.length : Int) % 32 := Int.tmod_eq_emod_of_nonneg (by simp [packR])
  by_cases h0 : (l.length : Int) % 32 = 0
  · left; rw [e2]; omega
  · right
    have e3 : (2 * ((packR l).n).tmod 32).toNat = 2 * (l.length % 32) := by rw [e2]; omega
    rw [e3, show min (2 * (l.length % 32)) 64 = 2 * (l.length % 32) by omega, fdiv_nn (by exact_mod_cast Nat.zero_le _)]
    show (packB l).getD ((packB l).length - 1) 0 / _ = 0
    rw [packB_len, packB_get]
    have hb := wv_bd _ (pts4_sub h (32 * ((l.length + 31) / 32 - 1)))
    have hc : ((l.drop (32 * ((l.length + 31) / 32 - 1))).take 32).length = l.length % 32 := by rw [List.length_take, List.length_drop]; omega
    rw [hc] at hb
    have e4 : (2 : Int) ^ (2 * (l.length % 32)) = 4 ^ (l.length % 32) := by rw [Int.pow_mul]; rfl
    rw [e4]
    exact Int.ediv_eq_zero_of_lt hb.1 hb.2
def ofT (ps : List Int) (t : Int) (l : List Int) : Tb := ⟨ps, t, l.length, packB l⟩
theorem ref16_Of (k k' : Tok) (ps : List Int) (t : Int) (l : List Int) (hps : ps.length ≤ 1000000000) (hl : l.length ≤ 1000000) (h4 : pts4 l) : PS F_fathomref16_Of [.sl k 1 (ints ps), I t, .sl k' 1 (ints l)] (.agg (ofT ps t l).c) := by
  refine pspec' mixed w_fathomref16_Of (by simp) (by simp [V.bd, Tb.bd]) fun n => ?_
  unfold c_fathomref16_Of r_fathomref16_Of
  (simp -implicitDefEqProofs (disch := omega) only [go_sem, ↓reduceIte])
  refine callM_i (ref16_copied _ ps hps) ?_
  (simp -implicitDefEqProofs (disch := omega) only [go_sem, ↓reduceIte])
  refine callM_i (ref02_Pack _ l hl h4) ?_
  (simp -implicitDefEqProofs (disch := omega) only [go_sem, ↓reduceIte, Rw.c, packR])
  exact ⟨by decide, rfl⟩
end Go.Proofs.Fathom
