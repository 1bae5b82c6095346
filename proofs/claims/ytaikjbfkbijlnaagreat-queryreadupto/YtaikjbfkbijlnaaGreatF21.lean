/- A part of the proof of 'Rows.QueryReadUptoSaid': for every text and every seeds (of bulk at most 1048576 together) fathomlaw19.QueryRead returns true and its arguments read afterwards as before. -/
import Derived.Test.YtaikjbfkbijlnaaGreatF20
set_option linter.unusedVariables false
set_option linter.unusedSimpArgs false
namespace Go.Proofs.Fathom
open Go Go.Proofs
attribute [local irreducible] PSpec CSpec
theorem ones_ex (x : Int) : ∃ r : Int, PS F_bits_OnesCount64 [.int .u64 x] (I r) := by
  apply Exists.intro
  (refine pspec' mixed w_bits_OnesCount64 (by simp) (by first | rfl | simp [V.bd, bds, bdss]) fun _ => ?_; unfold c_bits_OnesCount64 r_bits_OnesCount64)
  (simp -implicitDefEqProofs (disch := omega) only [go_sem, ↓reduceIte])
  refine ⟨by omega, by omega, by omega, by omega, by omega, by omega, ?_⟩
  rfl
noncomputable def onesG (x : Int) : Int := Classical.choose (ones_ex x)
theorem bits_Ones (x : Int) : PS F_bits_OnesCount64 [.int .u64 x] (I (onesG x)) := Classical.choose_spec (ones_ex x)
def likeW (u x : Int) : Int := bitsv .and .u64 (bitsv .xor .u64 18446744073709551615 (bitsv .or .u64 (bitsv .xor .u64 x u) ((bitsv .xor .u64 x u).fdiv (2 ^ min 1 IntKind.u64.bits)))) 6148914691236517205
noncomputable def cntW (u : Int) (bits : List Int) : Nat → Int
  | 0 => 0
  | i + 1 => IntKind.i64.wrap (cntW u bits i + onesG (likeW u (bits.getD i 0)))
def unlk (v : Int) : Int := IntKind.u64.wrap (IntKind.u64.wrap v * 6148914691236517205)
noncomputable def rcnt (r : Rw) (v : Int) : Int × Int :=
  if r.ok then (if v < 0 ∨ 3 < v then (0, 2) else (if v = 0 then IntKind.i64.wrap (cntW (unlk v) r.bits r.bits.length - IntKind.i64.wrap (32 * r.bits.length - r.n)) else cntW (unlk v) r.bits r.bits.length, 0)) else (0, 3)
theorem rows_Count (r : Rw) (v : Int) (hl : r.bits.length ≤ 1000000) : PS F_rows_Count [.agg r.c, I v] (pr (rcnt r v)) := by
  refine pspec' mixed w_rows_Count (by simp) (by simp [pr, V.bd, bds]) fun n => ?_
  unfold c_rows_Count r_rows_Count
  by_cases hok : r.ok = true
  · have hrc := rows_Check r
    rw [if_pos hok] at hrc
    (repeat' (first | simp -implicitDefEqProofs (disch := omega) only [go_sem, ↓reduceIte, Rw.c] | (((first | with_reducible apply cnd_c | with_reducible apply grd_c | with_reducible apply pck_c) <;> intro wh <;> (try rewrite [wh]) <;> try simp only [wdw] at wh) <;> (try (revert wh; intro _)) <;> try (exfalso; omega)) | refine andi ?_ | ((with_reducible refine callM_id ?_); refine callM_i hrc ?_) | fail))
    case false.false h1 h2 =>
      refine loop_rule (fun i : Nat => ⟨ofL [(1, I v), (2, .cref r.c), (7, .int .u64 (unlk v)), (8, I (cntW (unlk v) r.bits i)), (27, .sl .no 1 (u64s r.bits)), (28, I r.bits.length), (29, I i)], fun _ => none, n, 58, n⟩) (fun i => r.bits.length - i)
        (fun i => i ≤ r.bits.length) 0 rfl (by omega) fun i hi => ?_
      (simp -implicitDefEqProofs (disch := omega) only [go_sem, ↓reduceIte])
      ((first | with_reducible apply cnd_c | with_reducible apply grd_c | with_reducible apply pck_c) <;> intro h <;> (try rewrite [h]) <;> try simp only [wdw] at h)
      · have hi2 : i = r.bits.length := by omega
        subst hi2
        (repeat' (first | simp -implicitDefEqProofs (disch := omega) only [go_sem, ↓reduceIte, Rw.c] | (((first | with_reducible apply cnd_c | with_reducible apply grd_c | with_reducible apply pck_c) <;> intro wh <;> (try rewrite [wh]) <;> try simp only [wdw] at wh) <;> (try (revert wh; intro _)) <;> try (exfalso; omega)) | refine andi ?_ | fail))
        · rename_i hv
          simp only [pr, rcnt, hok, if_true]
          rw [if_neg (by omega), if_neg hv]
        · rename_i hv
          simp [pr, rcnt, hok, hv]
      · have hlt : i < r.bits.length := by omega
        have hgd : r.bits.getD i 0 = r.bits[i] := by rw [List.getD_eq_getElem?_getD, getq hlt]; rfl
        (repeat' (first | simp -implicitDefEqProofs (disch := omega) only [go_sem, ↓reduceIte, getq hlt, comM] | (((first | with_reducible apply cnd_c | with_reducible apply grd_c | with_reducible apply pck_c) <;> intro wh <;> (try rewrite [wh]) <;> try simp only [wdw] at wh) <;> (try (revert wh; intro _)) <;> try (exfalso; omega)) | refine andi ?_ | ((with_reducible refine callM_id ?_); refine callM_i (bits_Ones _) ?_) | fail))
        refine ⟨i + 1, by omega, by omega, ?_⟩
        simp only [cntW, likeW, hgd]
        rfl
    case false.true h1 h2 =>
      simp [pr, rcnt, hok, show v < 0 ∨ 3 < v from .inr h2]
    case true h1 =>
      simp [pr, rcnt, hok, show v < 0 ∨ 3 < v from .inl h1]
  · have hrc := rows_Check r
    rw [if_neg hok] at hrc
    (repeat' (first | simp -implicitDefEqProofs (disch := omega) only [go_sem, ↓reduceIte, Rw.c] | (((first | with_reducible apply cnd_c | with_reducible apply grd_c | with_reducible apply pck_c) <;> intro wh <;> (try rewrite [wh]) <;> try simp only [wdw] at wh) <;> (try (revert wh; intro _)) <;> try (exfalso; omega)) | refine andi ?_ | ((with_reducible refine callM_id ?_); refine callM_i hrc ?_) | fail))
    simp [pr, rcnt, hok]
open Classical in
noncomputable def tchk (t : Tb) : Int :=
  if (tcount 1 t.params).2 ≠ 0 ∨ topE t.typ ≠ 0 ∨ t.n ≠ (tcount 1 t.params).1 ∨ t.rw.ok = false then 3
  else if ∃ v : Int, topP t.typ + 1 ≤ v ∧ v < 4 ∧ 0 < (rcnt t.rw v).1 then 3 else 0
theorem tuples_Check (t : Tb) (hl : t.params.length ≤ 1000000000) (hb : t.bits.length ≤ 1000000) : PS F_tuples_Check [.agg t.c] (I (tchk t)) := by
  refine pspec' mixed w_tuples_Check (by simp) (by simp [V.bd]) fun n => ?_
  unfold c_tuples_Check r_tuples_Check
  have htp := topP_le t.typ
  have hrc : PS F_rows_Check [V.agg [V.int IntKind.i64 t.n, V.sl Tok.no 1 (u64s t.bits)]] (I (if t.rw.ok then 0 else 3)) := rows_Check t.rw
  (repeat' (first | simp -implicitDefEqProofs (disch := omega) only [go_sem, ↓reduceIte, Tb.c, pr] | (((first | with_reducible apply cnd_c | with_reducible apply grd_c | with_reducible apply pck_c) <;> intro wh <;> (try rewrite [wh]) <;> try simp only [wdw] at wh) <;> (try (revert wh; intro _)) <;> try (exfalso; omega)) | refine andi ?_ | ((with_reducible refine callM_id ?_); refine callM_i (tuples_Count _ t.params hl) ?_) | ((with_reducible refine callM_id ?_); refine callM_i (tuples_size _) ?_) | ((with_reducible refine callM_id ?_); refine callM_i hrc ?_) | fail))
  case true h1 =>
    unfold tchk
    rw [if_pos (.inl h1)]
  case false.true h1 h2 =>
    unfold tchk
    rw [if_pos (.inr (.inl h2))]
  case false.false.true h1 h2 h3 =>
    unfold tchk
    rw [if_pos (.inr (.inr (.inl h3)))]
  case false.false.false.true h1 h2 h3 h4 =>
    have hok : t.rw.ok = false := by
      cases hb : t.rw.ok
      · rfl
      · rw [hb] at h4; simp at h4
    unfold tchk
    rw [if_pos (.inr (.inr (.inr hok)))]
  case false.false.false.false h1 h2 h3 h4 =>
    have hok : t.rw.ok = true := by
      cases hb : t.rw.ok
      · rw [hb] at h4; simp at h4
      · rfl
    have hng : ¬ ((tcount 1 t.params).2 ≠ 0 ∨ topE t.typ ≠ 0 ∨ t.n ≠ (tcount 1 t.params).1 ∨ t.rw.ok = false) := by
      simp [h1, h2, h3, hok]
    have hct : ∀ v, PS F_rows_Count [V.agg [V.int IntKind.i64 t.n, V.sl Tok.no 1 (u64s t.bits)], I v] (pr (rcnt t.rw v)) := fun v => rows_Count t.rw v hb
    refine loop_rule (fun v : Int => ⟨ofL [(1, .cref t.c), (7, I v)], fun _ => none, n, 55, n⟩) (fun v => (4 - v).toNat)
      (fun v => topP t.typ + 1 ≤ v ∧ v ≤ 4 ∧ ∀ u, topP t.typ + 1 ≤ u → u < v → ¬ 0 < (rcnt t.rw u).1) (topP t.typ + 1) rfl ⟨by omega, by omega, fun u h1 h2 => by omega⟩ fun v hv => ?_
    obtain ⟨hv1, hv2, hv3⟩ := hv
    (repeat' (first | simp -implicitDefEqProofs (disch := omega) only [go_sem, ↓reduceIte, Tb.c, pr] | (((first | with_reducible apply cnd_c | with_reducible apply grd_c | with_reducible apply pck_c) <;> intro wh <;> (try rewrite [wh]) <;> try simp only [wdw] at wh) <;> (try (revert wh; intro _)) <;> try (exfalso; omega)) | refine andi ?_ | ((with_reducible refine callM_id ?_); refine callM_i (hct _) ?_) | fail))
    · rename_i h5
      unfold tchk
      rw [if_neg hng, if_neg]
      rintro ⟨u, hu1, hu2, hu3⟩
      exact hv3 u hu1 (by omega) hu3
    · rename_i h5 h6
      refine ⟨v + 1, ⟨by omega, by omega, fun u hu1 hu2 => ?_⟩, by omega, by simp [Tb.c]⟩
      by_cases hu : u = v
      · subst hu; omega
      · exact hv3 u hu1 (by omega)
    · rename_i h5 h6
      unfold tchk
      rw [if_neg hng, if_pos ⟨v, hv1, by omega, h6⟩]
theorem tchk_03 (t : Tb) : tchk t = 0 ∨ tchk t = 3 := by
  unfold tchk
  split
  · exact .inr rfl
  · split
    · exact .inr rfl
    · exact .inl rfl
end Go.Proofs.Fathom
set_option linter.unusedVariables false
set_option linter.unusedSimpArgs false
namespace Go.Proofs.Fathom
open Go Go.Proofs
attribute [local irreducible] PSpec CSpec
noncomputable def tplace (t : Tb) (xs : List Int) : Int × Int := if tchk t ≠ 0 then (0, tchk t) else tnumber t.params xs
noncomputable def tAt (t : Tb) (xs : List Int) : Int × Int := if (tplace t xs).2 ≠ 0 then (0, (tplace t xs).2) else rget t.rw (tplace t xs).1
theorem tuples_place (k : Tok) (t : Tb) (xs : List Int) (hl : t.params.length ≤ 1000000000) (hb : t.bits.length ≤ 1000000) : PS F_tuples_place [.agg t.c, .sl k 1 (ints xs)] (pr (tplace t xs)) := by
  (refine pspec' mixed w_tuples_place (by simp) (by first | rfl | simp [V.bd, bds, bdss]) fun _ => ?_; unfold c_tuples_place r_tuples_place)
  have h1 : PS F_tuples_Check [V.agg [V.sl Tok.no 1 (ints t.params), V.int IntKind.i64 t.typ, V.int IntKind.i64 t.n, V.sl Tok.no 1 (u64s t.bits)]] (I (tchk t)) := tuples_Check t hl hb
  (repeat' (first | simp -implicitDefEqProofs (disch := omega) only [go_sem, ↓reduceIte, Tb.c, pr] | (((first | with_reducible apply cnd_c | with_reducible apply grd_c | with_reducible apply pck_c) <;> intro wh <;> (try rewrite [wh]) <;> try simp only [wdw] at wh) <;> (try (revert wh; intro _)) <;> try (exfalso; omega)) | refine andi ?_ | ((with_reducible refine callM_id ?_); refine callM_i h1 ?_) | ((with_reducible refine callM_id ?_); refine callM_i (tuples_Number _ _ t.params xs hl) ?_) | fail))
  · rename_i hc
    simp [tplace, hc]
  · rename_i hc
    simp [tplace, hc]
theorem tuples_At (k : Tok) (t : Tb) (xs : List Int) (hl : t.params.length ≤ 1000000000) (hb : t.bits.length ≤ 1000000) (hu : u64ok t.bits) : PS F_tuples_At [.agg t.c, .sl k 1 (ints xs)] (pr (tAt t xs)) := by
  (refine pspec' mixed w_tuples_At (by simp) (by first | rfl | simp [V.bd, bds, bdss]) fun _ => ?_; unfold c_tuples_At r_tuples_At)
  have h1 : PS F_tuples_place [V.agg [V.sl Tok.no 1 (ints t.params), V.int IntKind.i64 t.typ, V.int IntKind.i64 t.n, V.sl Tok.no 1 (u64s t.bits)], .sl k 1 (ints xs)] (pr (tplace t xs)) := tuples_place k t xs hl hb
  have h2 : ∀ i, PS F_rows_Get [V.agg [V.int IntKind.i64 t.n, V.sl Tok.no 1 (u64s t.bits)], I i] (pr (rget t.rw i)) := fun i => rows_Get t.rw i hu
  (repeat' (first | simp -implicitDefEqProofs (disch := omega) only [go_sem, ↓reduceIte, Tb.c, pr] | (((first | with_reducible apply cnd_c | with_reducible apply grd_c | with_reducible apply pck_c) <;> intro wh <;> (try rewrite [wh]) <;> try simp only [wdw] at wh) <;> (try (revert wh; intro _)) <;> try (exfalso; omega)) | refine andi ?_ | ((with_reducible refine callM_id ?_); refine callM_i h1 ?_) | ((with_reducible refine callM_id ?_); refine callM_i (h2 _) ?_) | fail))
  · rename_i hc
    simp [tAt, hc]
  · rename_i hc
    simp [tAt, hc]
def tops (ps : List Int) : List Int := ps.map topP
theorem query_at (t : Tb) (k : Nat) (q : Int) (hk : k < t.params.length) (hl : t.params.length ≤ 1000000000) (hb : t.bits.length ≤ 1000000) (hu : u64ok t.bits) : PS F_query_at [.agg t.c, I k, I q] (I (tAt t ((tops t.params).set k q)).1) := by
  refine pspec' mixed w_query_at (by simp) (by simp [V.bd]) fun n => ?_
  unfold c_query_at r_query_at
  (repeat' (first | simp -implicitDefEqProofs (disch := omega) only [go_sem, ↓reduceIte, Tb.c] | (((first | with_reducible apply cnd_c | with_reducible apply grd_c | with_reducible apply pck_c) <;> intro wh <;> (try rewrite [wh]) <;> try simp only [wdw] at wh) <;> (try (revert wh; intro _)) <;> try (exfalso; omega)) | refine andi ?_ | fail))
  refine loop_rule (fun i : Nat => ⟨ofL [(1, I k), (2, I q), (3, .cref t.c), (7, .row n i 1 0 i), (15, .sl .no 1 (ints t.params)), (16, I t.params.length), (17, I i)], upd (fun _ => none) n (some (.row 1 (ints ((tops t.params).take i)))), n + 1, 42, n⟩) (fun i => t.params.length - i)
    (fun i => i ≤ t.params.length) 0 rfl (by omega) fun i hi => ?_
  have htl : (tops t.params).length = t.params.length := by simp [tops]
  (simp -implicitDefEqProofs (disch := omega) only [go_sem, ↓reduceIte])
  ((first | with_reducible apply cnd_c | with_reducible apply grd_c | with_reducible apply pck_c) <;> intro h <;> (try rewrite [h]) <;> try simp only [wdw] at h)
  · have hi2 : i = t.params.length := by omega
    subst hi2
    have htk : (tops t.params).take t.params.length = tops t.params := List.take_of_length_le (by omega)
    rw [htk]
    have hg := getDq (l := tops t.params) (i := k) (by omega)
    have hat := tuples_At .no t ((tops t.params).set k q) hl hb hu
    have hat2 : PS F_tuples_At [V.agg [V.sl Tok.no 1 (ints t.params), V.int IntKind.i64 t.typ, V.int IntKind.i64 t.n, V.sl Tok.no 1 (u64s t.bits)], .sl .no 1 (ints ((tops t.params).set k q))] (pr (tAt t ((tops t.params).set k q))) := hat
    have hlen : ((tops t.params).set k q).length = t.params.length := by rw [List.length_set, htl]
    (repeat' (first | simp -implicitDefEqProofs (disch := omega) only [go_sem, ↓reduceIte, htl, hg, ints_set, hlen, Tb.c] | (((first | with_reducible apply cnd_c | with_reducible apply grd_c | with_reducible apply pck_c) <;> intro wh <;> (try rewrite [wh]) <;> try simp only [wdw] at wh) <;> (try (revert wh; intro _)) <;> try (exfalso; omega)) | refine andi ?_ | fail))
    rw [List.take_of_length_le (by rw [ints_len, hlen]; exact Nat.le_refl _)]
    refine callM_i hat2 ?_
    (repeat' (first | simp -implicitDefEqProofs (disch := omega) only [go_sem, ↓reduceIte, pr] | (((first | with_reducible apply cnd_c | with_reducible apply grd_c | with_reducible apply pck_c) <;> intro wh <;> (try rewrite [wh]) <;> try simp only [wdw] at wh) <;> (try (revert wh; intro _)) <;> try (exfalso; omega)) | refine andi ?_ | fail))
  · have hlt : i < t.params.length := by omega
    have htl2 : ((tops t.params).take i).length = i := by rw [List.length_take, htl]; omega
    (repeat' (first | simp -implicitDefEqProofs (disch := omega) only [go_sem, ↓reduceIte, getq hlt, htl2] | (((first | with_reducible apply cnd_c | with_reducible apply grd_c | with_reducible apply pck_c) <;> intro wh <;> (try rewrite [wh]) <;> try simp only [wdw] at wh) <;> (try (revert wh; intro _)) <;> try (exfalso; omega)) | refine andi ?_ | ((with_reducible refine callM_id ?_); refine callM_i (points_Top _) ?_) | fail))
    refine ⟨i + 1, by omega, by omega, ?_⟩
    have e : ints ((tops t.params).take i) ++ [[I (topP t.params[i])]] = ints ((tops t.params).take (i + 1)) := by
      have h2 : i < (tops t.params).length := by omega
      rw [ints_snoc, ← take_snoc h2]
      simp [tops]
    rw [e]
    simp
end Go.Proofs.Fathom
set_option linter.unusedVariables false
set_option linter.unusedSimpArgs false
namespace Go.Proofs.Fathom
open Go Go.Proofs
attribute [local irreducible] PSpec CSpec
/-- Tables of a program's shape. -/
structure Fits (p : List Fn) (ts : List Tb) : Prop where
  len : ts.length = p.length
  params : ∀ i (h : i < p.length) (h2 : i < ts.length), ts[i].params = p[i].types ∧ ts[i].typ = p[i].typ
  bits : ∀ t ∈ ts, t.bits.length ≤ 1000000 ∧ t.params.length ≤ 1000000000 ∧ u64ok t.bits
open Classical in
noncomputable def fitE (ts : List Tb) (w : Int) : Int := if w ≠ 0 ∨ ∃ t ∈ ts, tchk t ≠ 0 then 3 else 0
theorem query_fit (k : Tok) (p : List Fn) (ts : List Tb) (w a : Int) (hT : PS F_types_Check [progV p] (.agg [I w, I a])) (hf : Fits p ts) (hpl : p.length ≤ 1000000) :
    PS F_query_fit [progV p, .sl k 4 (tabV ts)] (I (fitE ts w)) := by
  refine pspec' mixed w_query_fit (by simp) (by simp [V.bd]) fun n => ?_
  unfold c_query_fit r_query_fit
  have hT2 : PS F_types_Check [.agg [.sl .no 11 (p.map Fn.c)]] (.agg [I w, I a]) := hT
  have htl : (tabV ts).length = p.length := by simp [tabV, hf.len]
  (repeat' (first | simp -implicitDefEqProofs (disch := omega) only [go_sem, ↓reduceIte, progV, htl] | (((first | with_reducible apply cnd_c | with_reducible apply grd_c | with_reducible apply pck_c) <;> intro wh <;> (try rewrite [wh]) <;> try simp only [wdw] at wh) <;> (try (revert wh; intro _)) <;> try (exfalso; omega)) | refine andi ?_ | ((with_reducible refine callM_id ?_); refine callM_i hT2 ?_) | fail))
  case true h1 =>
    unfold fitE
    rw [if_pos (.inl h1)]
  case false h1 =>
    refine loop_rule (fun s : Nat × Nat × Obs => ⟨ofL [(1, .sl k 4 (tabV ts)), (23, .sl .no 11 (p.map Fn.c)), (24, I p.length), (25, I s.1)], s.2.2, s.2.1, 71, n⟩) (fun s => p.length - s.1)
      (fun s => s.1 ≤ p.length ∧ ∀ t ∈ ts.take s.1, tchk t = 0) (0, n, fun _ => none) rfl ⟨Nat.zero_le _, by simp⟩ fun s hs => ?_
    obtain ⟨i, y, ob⟩ := s
    obtain ⟨hi, hts⟩ := hs
    simp only at hi hts ⊢
    (simp -implicitDefEqProofs (disch := omega) only [go_sem, ↓reduceIte])
    ((first | with_reducible apply cnd_c | with_reducible apply grd_c | with_reducible apply pck_c) <;> intro h <;> (try rewrite [h]) <;> try simp only [wdw] at h)
    · have hi2 : i = p.length := by omega
      subst hi2
      (repeat' (first | simp -implicitDefEqProofs (disch := omega) only [go_sem, ↓reduceIte] | (((first | with_reducible apply cnd_c | with_reducible apply grd_c | with_reducible apply pck_c) <;> intro wh <;> (try rewrite [wh]) <;> try simp only [wdw] at wh) <;> (try (revert wh; intro _)) <;> try (exfalso; omega)) | refine andi ?_ | fail))
      have hall : ts.take p.length = ts := List.take_of_length_le (by rw [hf.len]; exact Nat.le_refl _)
      rw [hall] at hts
      unfold fitE
      rw [if_neg]
      rintro (h3 | ⟨t, ht1, ht2⟩)
      · exact h3 h1
      · exact ht2 (hts t ht1)
    · have hlt : i < p.length := by omega
      have hlt2 : i < ts.length := by rw [hf.len]; exact hlt
      obtain ⟨hp1, hp2⟩ := hf.params i hlt hlt2
      obtain ⟨hb1, hb2, hb3⟩ := hf.bits _ (List.getElem_mem hlt2)
      have hg : (tabV ts)[i]? = some (Tb.c ts[i]) := by simp only [tabV, List.getElem?_map, getq hlt2, Option.map_some]
      have hck : PS F_tuples_Check [V.agg [V.sl Tok.no 1 (ints ts[i].params), V.int IntKind.i64 ts[i].typ, V.int IntKind.i64 ts[i].n, V.sl Tok.no 1 (u64s ts[i].bits)]] (I (tchk ts[i])) := tuples_Check ts[i] hb2 hb1
      have hpl3 : ts[i].params.length = p[i].params.length := by rw [hp1]; simp [Fn.types]
      have hck' := hck
      rw [hp2] at hck
      (repeat' (first | simp -implicitDefEqProofs (disch := omega) only [go_sem, ↓reduceIte, getq hlt, hg, Tb.c, Fn.c, hp2, hpl3] | (((first | with_reducible apply cnd_c | with_reducible apply grd_c | with_reducible apply pck_c) <;> intro wh <;> (try rewrite [wh]) <;> try simp only [wdw] at wh) <;> (try (revert wh; intro _)) <;> try (exfalso; omega)) | refine andi ?_ | ((with_reducible refine callM_id ?_); refine callM_i hck ?_) | fail))
      · rename_i h3
        refine loop_rule (fun s : Nat × Nat × Obs => ⟨ofL [(1, .sl k 4 (tabV ts)), (7, .ptr (y + 1) 0), (23, .sl .no 11 (p.map Fn.c)), (24, I p.length), (25, I i), (54, .sl .no 3 (p[i].params.map Pm.c)), (55, I p[i].params.length), (56, I s.1)], s.2.2, s.2.1, 71, n⟩) (fun s => p[i].params.length - s.1)
          (fun s => s.1 ≤ p[i].params.length ∧ y + 2 ≤ s.2.1 ∧ s.2.2 (y + 1) = some (.cells ts[i].c)) (0, y + 2, upd (upd ob y (some (.cells p[i].c))) (y + 1) (some (.cells ts[i].c))) (by simp only [Fn.c, Tb.c, hp2]; rfl) ⟨Nat.zero_le _, Nat.le_refl _, by simp only; rw [upd_same]⟩ fun s hs => ?_
        obtain ⟨m, y2, ob2⟩ := s
        obtain ⟨hm, hy2, hob⟩ := hs
        simp only at hm hy2 hob ⊢
        (simp -implicitDefEqProofs (disch := omega) only [go_sem, ↓reduceIte])
        ((first | with_reducible apply cnd_c | with_reducible apply grd_c | with_reducible apply pck_c) <;> intro h4 <;> (try rewrite [h4]) <;> try simp only [wdw] at h4)
        · (repeat' (first | simp -implicitDefEqProofs (disch := omega) only [go_sem, ↓reduceIte] | (((first | with_reducible apply cnd_c | with_reducible apply grd_c | with_reducible apply pck_c) <;> intro wh <;> (try rewrite [wh]) <;> try simp only [wdw] at wh) <;> (try (revert wh; intro _)) <;> try (exfalso; omega)) | refine andi ?_ | fail))
          refine ⟨(i + 1, y2, ob2), ⟨by simp only; omega, fun t ht => ?_⟩, by simp only; omega, rfl⟩
          simp only at ht
          rw [List.take_succ_eq_append_getElem hlt2] at ht
          rcases List.mem_append.1 ht with ht | ht
          · exact hts t ht
          · simp only [List.mem_singleton] at ht
            subst ht
            exact h3
        · have hm2 : m < p[i].params.length := by omega
          have hg2 : ts[i].params[m]? = some p[i].params[m].typ := by
            rw [hp1]; simp [Fn.types, hm2]
          (repeat' (first | simp -implicitDefEqProofs (disch := omega) only [go_sem, ↓reduceIte, getq hm2, Pm.c, hob, Tb.c, hg2] | (((first | with_reducible apply cnd_c | with_reducible apply grd_c | with_reducible apply pck_c) <;> intro wh <;> (try rewrite [wh]) <;> try simp only [wdw] at wh) <;> (try (revert wh; intro _)) <;> try (exfalso; omega)) | refine andi ?_ | fail))
          refine ⟨(m + 1, y2 + 1, upd ob2 y2 (some (.cells p[i].params[m].c))), ⟨by simp only; omega, by simp only; omega, ?_⟩, by simp only; omega, by simp only [Pm.c]; rfl⟩
          simp only
          rw [upd_ne _ _ (by omega)]
          exact hob
      · rename_i h3
        unfold fitE
        rw [if_pos (.inr ⟨_, List.getElem_mem hlt2, h3⟩)]
end Go.Proofs.Fathom
set_option linter.unusedVariables false
set_option linter.unusedSimpArgs false
namespace Go.Proofs.Fathom
open Go Go.Proofs
attribute [local irreducible] PSpec CSpec
noncomputable def atV (t : Tb) (k : Nat) (q : Int) : Int := (tAt t ((tops t.params).set k q)).1
noncomputable def demF (t : Tb) (k : Nat) : Nat → Int
  | 0 => -1
  | n + 1 => if 0 < atV t k n then demF t k n else n
noncomputable def demV (t : Tb) (k : Nat) : Int := demF t k (topP (t.params.getD k 0) + 1).toNat
def bools (l : List Bool) : List (List V) := l.map fun b => [.bool b]
theorem bools_bd (n : Nat) (l : List Bool) : bdss n (bools l) = true := bdss_map (fun _ => rfl) l
theorem bools_len (l : List Bool) : (bools l).length = l.length := List.length_map _
theorem demF_le (t : Tb) (k : Nat) : ∀ n, -1 ≤ demF t k n ∧ demF t k n ≤ n
  | 0 => by simp [demF]
  | n + 1 => by
    have := demF_le t k n
    simp only [demF]
    split <;> omega
theorem query_Demand (k' : Tok) (p : List Fn) (ts : List Tb) (i k : Nat) (hfit : ∀ k', PS F_query_fit [progV p, .sl k' 4 (tabV ts)] (I 0)) (hf : Fits p ts) (hi : i < p.length) (hi2 : i < ts.length) (hk : k < p[i].params.length) (hpl : p.length ≤ 1000000) (hpp : p[i].params.length ≤ 1000000) :
    PS F_query_Demand [progV p, .sl k' 4 (tabV ts), I i, I k] (.tup [I (demV ts[i] k), I 0]) := by
  refine pspec' mixed w_query_Demand (by simp) (by simp [V.bd, bds]) fun n => ?_
  unfold c_query_Demand r_query_Demand
  have hfit2 : ∀ k', PS F_query_fit [.agg [.sl .no 11 (p.map Fn.c)], .sl k' 4 (tabV ts)] (I 0) := hfit
  have hg : (tabV ts)[i]? = some (Tb.c ts[i]) := by simp only [tabV, List.getElem?_map, getq hi2, Option.map_some]
  obtain ⟨hp1, hp2⟩ := hf.params i hi hi2
  obtain ⟨hb1, hb2, hb3⟩ := hf.bits _ (List.getElem_mem hi2)
  have hkt : k < ts[i].params.length := by rw [hp1]; simpa [Fn.types] using hk
  have hat : ∀ q, PS F_query_at [V.agg [V.sl Tok.no 1 (ints ts[i].params), V.int IntKind.i64 ts[i].typ, V.int IntKind.i64 ts[i].n, V.sl Tok.no 1 (u64s ts[i].bits)], I k, I q] (I (atV ts[i] k q)) := fun q => query_at ts[i] k q hkt hb2 hb1 hb3
  have hgk := getDq hkt
  have htl : (tabV ts).length = p.length := by simp [tabV, hf.len]
  (repeat' (first | simp -implicitDefEqProofs (disch := omega) only [go_sem, ↓reduceIte, progV, htl, getq hi, hg, Tb.c, Fn.c, hgk] | (((first | with_reducible apply cnd_c | with_reducible apply grd_c | with_reducible apply pck_c) <;> intro wh <;> (try rewrite [wh]) <;> try simp only [wdw] at wh) <;> (try (revert wh; intro _)) <;> try (exfalso; omega)) | refine andi ?_ | ((with_reducible refine callM_id ?_); refine callM_i (hfit2 _) ?_) | ((with_reducible refine callM_id ?_); refine callM_i (points_Top _) ?_) | fail))
  have htp := topP_le (ts[i].params.getD k 0)
  refine loop_rule (fun m : Nat => ⟨ofL [(1, .sl k' 4 (tabV ts)), (2, I i), (3, I k), (11, I (m - 1))], fun _ => none, n, 70, n⟩) (fun m => m)
    (fun m => (m : Int) ≤ topP (ts[i].params.getD k 0) + 1 ∧ demF ts[i] k m = demV ts[i] k) (topP (ts[i].params.getD k 0) + 1).toNat (by
      rw [Int.toNat_of_nonneg (by omega), Int.add_sub_cancel]) ⟨by omega, rfl⟩ fun m hm => ?_
  obtain ⟨hm1, hm2⟩ := hm
  (repeat' (first | simp -implicitDefEqProofs (disch := omega) only [go_sem, ↓reduceIte, hg, Tb.c] | (((first | with_reducible apply cnd_c | with_reducible apply grd_c | with_reducible apply pck_c) <;> intro wh <;> (try rewrite [wh]) <;> try simp only [wdw] at wh) <;> (try (revert wh; intro _)) <;> try (exfalso; omega)) | refine andi ?_ | ((with_reducible refine callM_id ?_); refine callM_i (hat _) ?_) | fail))
  · rename_i h1
    have hm0 : m = 0 := by omega
    subst hm0
    rw [← hm2]
    rfl
  · rename_i h1 h2
    obtain ⟨m, rfl⟩ : ∃ j, m = j + 1 := ⟨m - 1, by omega⟩
    have e : ((m + 1 : Nat) : Int) - 1 = m := by omega
    rw [e] at h2 ⊢
    rw [← hm2]
    simp only [demF]
    rw [if_neg (by omega)]
  · rename_i h1 h2
    obtain ⟨m, rfl⟩ : ∃ j, m = j + 1 := ⟨m - 1, by omega⟩
    have e : ((m + 1 : Nat) : Int) - 1 = m := by omega
    rw [e] at h2 ⊢
    refine ⟨m, ⟨by omega, ?_⟩, by omega, ?_⟩
    · rw [← hm2]
      simp only [demF]
      rw [if_pos h2]
    · rfl
theorem query_Strict (k' : Tok) (p : List Fn) (ts : List Tb) (i k : Nat) (hfit : ∀ k', PS F_query_fit [progV p, .sl k' 4 (tabV ts)] (I 0)) (hf : Fits p ts) (hi : i < p.length) (hi2 : i < ts.length) (hk : k < p[i].params.length) (hpl : p.length ≤ 1000000) (hpp : p[i].params.length ≤ 1000000) :
    PS F_query_Strict [progV p, .sl k' 4 (tabV ts), I i, I k] (.tup [.bool (decide (atV ts[i] k 0 = 0)), I 0]) := by
  refine pspec' mixed w_query_Strict (by simp) (by simp [V.bd, bds]) fun n => ?_
  unfold c_query_Strict r_query_Strict
  have hg : (tabV ts)[i]? = some (Tb.c ts[i]) := by simp only [tabV, List.getElem?_map, getq hi2, Option.map_some]
  obtain ⟨hp1, hp2⟩ := hf.params i hi hi2
  obtain ⟨hb1, hb2, hb3⟩ := hf.bits _ (List.getElem_mem hi2)
  have hkt : k < ts[i].params.length := by rw [hp1]; simpa [Fn.types] using hk
  have hat : ∀ q, PS F_query_at [V.agg [V.sl Tok.no 1 (ints ts[i].params), V.int IntKind.i64 ts[i].typ, V.int IntKind.i64 ts[i].n, V.sl Tok.no 1 (u64s ts[i].bits)], I k, I q] (I (atV ts[i] k q)) := fun q => query_at ts[i] k q hkt hb2 hb1 hb3
  have hD : ∀ k', PS F_query_Demand [.agg [.sl .no 11 (p.map Fn.c)], .sl k' 4 (tabV ts), I i, I k] (.tup [I (demV ts[i] k), I 0]) := fun k' => query_Demand k' p ts i k hfit hf hi hi2 hk hpl hpp
  (repeat' (first | simp -implicitDefEqProofs (disch := omega) only [go_sem, ↓reduceIte, progV, hg, Tb.c] | (((first | with_reducible apply cnd_c | with_reducible apply grd_c | with_reducible apply pck_c) <;> intro wh <;> (try rewrite [wh]) <;> try simp only [wdw] at wh) <;> (try (revert wh; intro _)) <;> try (exfalso; omega)) | refine andi ?_ | ((with_reducible refine callM_id ?_); refine callM_i (hD _) ?_) | ((with_reducible refine callM_id ?_); refine callM_i (hat 0) ?_) | fail))
theorem query_Places (k' : Tok) (p : List Fn) (ts : List Tb) (i : Nat) (e : Int) (he : e = 0 ∨ e = 3) (hfit : ∀ k', PS F_query_fit [progV p, .sl k' 4 (tabV ts)] (I e)) (hf : Fits p ts) (hi : i < p.length) (hi2 : i < ts.length) (hpl : p.length ≤ 1000000) (hpp : p[i].params.length ≤ 1000000) :
    PS F_query_Places [progV p, .sl k' 4 (tabV ts), I i] (if e = 0 then .tup [.sl .no 1 (bools ((List.range ts[i].params.length).map fun k => decide (atV ts[i] k 0 = 0))), I 0] else .tup [.sl .no 1 [], I e]) := by
  refine pspec' mixed w_query_Places (by simp) (by split <;> simp [V.bd, bds, bdss, bools_bd]) fun n => ?_
  unfold c_query_Places r_query_Places
  have hfit2 : ∀ k', PS F_query_fit [.agg [.sl .no 11 (p.map Fn.c)], .sl k' 4 (tabV ts)] (I e) := hfit
  have hg : (tabV ts)[i]? = some (Tb.c ts[i]) := by simp only [tabV, List.getElem?_map, getq hi2, Option.map_some]
  obtain ⟨hp1, hp2⟩ := hf.params i hi hi2
  obtain ⟨hb1, hb2, hb3⟩ := hf.bits _ (List.getElem_mem hi2)
  have htl : (tabV ts).length = p.length := by simp [tabV, hf.len]
  have hpl3 : ts[i].params.length = p[i].params.length := by rw [hp1]; simp [Fn.types]
  (repeat' (first | simp -implicitDefEqProofs (disch := omega) only [go_sem, ↓reduceIte, progV, htl, getq hi, hg, Tb.c, Fn.c] | (((first | with_reducible apply cnd_c | with_reducible apply grd_c | with_reducible apply pck_c) <;> intro wh <;> (try rewrite [wh]) <;> try simp only [wdw] at wh) <;> (try (revert wh; intro _)) <;> try (exfalso; omega)) | refine andi ?_ | ((with_reducible refine callM_id ?_); refine callM_i (hfit2 _) ?_) | fail))
  case true h1 => simp [h1]
  case false.false.false h1 h2 h3 =>
    subst h1
    rw [if_pos rfl]
    refine loop_rule (fun j : Nat => ⟨ofL [(1, .sl k' 4 (tabV ts)), (2, I i), (9, .sl (.tip n) 1 (bools (((List.range ts[i].params.length).map fun k => decide (atV ts[i] k 0 = 0)).take j))), (32, I p[i].params.length), (33, I j)], upd (fun _ => none) n (some (.tip 1 j)), n + 1, 48, n⟩) (fun j => p[i].params.length - j)
      (fun j => j ≤ p[i].params.length) 0 (by simp [bools]) (by omega) fun j hj => ?_
    have hLl : ((List.range ts[i].params.length).map fun k => decide (atV ts[i] k 0 = 0)).length = p[i].params.length := by simp [hpl3]
    (simp -implicitDefEqProofs (disch := omega) only [go_sem, ↓reduceIte])
    ((first | with_reducible apply cnd_c | with_reducible apply grd_c | with_reducible apply pck_c) <;> intro h4 <;> (try rewrite [h4]) <;> try simp only [wdw] at h4)
    · have hj2 : j = p[i].params.length := by omega
      subst hj2
      (repeat' (first | simp -implicitDefEqProofs (disch := omega) only [go_sem, ↓reduceIte] | (((first | with_reducible apply cnd_c | with_reducible apply grd_c | with_reducible apply pck_c) <;> intro wh <;> (try rewrite [wh]) <;> try simp only [wdw] at wh) <;> (try (revert wh; intro _)) <;> try (exfalso; omega)) | refine andi ?_ | fail))
      rw [List.take_of_length_le (by omega)]
    · have hjl : j < p[i].params.length := by omega
      have hat : PS F_query_at [V.agg [V.sl Tok.no 1 (ints ts[i].params), V.int IntKind.i64 ts[i].typ, V.int IntKind.i64 ts[i].n, V.sl Tok.no 1 (u64s ts[i].bits)], I j, I 0] (I (atV ts[i] j 0)) := query_at ts[i] j 0 (by omega) hb2 hb1 hb3
      have hbl : (bools (((List.range ts[i].params.length).map fun k => decide (atV ts[i] k 0 = 0)).take j)).length = j := by rw [bools_len, List.length_take, hLl]; omega
      (repeat' (first | simp -implicitDefEqProofs (disch := omega) only [go_sem, ↓reduceIte, hg, Tb.c, hbl] | (((first | with_reducible apply cnd_c | with_reducible apply grd_c | with_reducible apply pck_c) <;> intro wh <;> (try rewrite [wh]) <;> try simp only [wdw] at wh) <;> (try (revert wh; intro _)) <;> try (exfalso; omega)) | refine andi ?_ | ((with_reducible refine callM_id ?_); refine callM_i hat ?_) | fail))
      refine ⟨j + 1, by omega, by omega, ?_⟩
      have e : bools (((List.range ts[i].params.length).map fun k => decide (atV ts[i] k 0 = 0)).take j) ++ [[V.bool (decide (atV ts[i] j 0 = 0))]] = bools (((List.range ts[i].params.length).map fun k => decide (atV ts[i] k 0 = 0)).take (j + 1)) := by
        rw [List.take_succ_eq_append_getElem (by omega)]
        simp [bools]
      rw [e]
      simp
end Go.Proofs.Fathom
set_option linter.unusedVariables false
set_option linter.unusedSimpArgs false
namespace Go.Proofs.Fathom
open Go Go.Proofs
attribute [local irreducible] PSpec CSpec
theorem ref16_At (k : Tok) (ps : List Int) (t : Int) (l xs : List Int) (hl : ps.length ≤ 1000000000) (hc : tcount 1 ps = ((l.length : Int), 0)) (ht : 0 ≤ rtop t) (hw : within l 0 (rtop t)) (hx : xok ps xs) :
    PS F_fathomref16_At [.agg (ofT ps t l).c, .sl k 1 (ints xs)] (.tup [I (l.getD (tval ps xs).toNat 0), I 0]) := by
  refine pspec' mixed w_fathomref16_At (by simp) (by simp [V.bd, bds]) fun n => ?_
  unfold c_fathomref16_At r_fathomref16_At
  have hPt := points_of n ps t l hl hc ht hw
  have hNm := ref16_Number .no k ps xs hl
  rw [tnumber_val (by rw [hc]) hx] at hNm
  obtain ⟨h1, h2, h3⟩ := tcount_ok ps 1 (by omega) (by omega) (by rw [hc])
  have hb := tval_bd hx
  have hll : (l.length : Int) = prodT ps := by rw [hc] at h3; simp only at h3; omega
  have hg := getDq (l := l) (i := (tval ps xs).toNat) (by omega)
  (repeat' (first | simp -implicitDefEqProofs (disch := omega) only [go_sem, ↓reduceIte, Tb.c] | (((first | with_reducible apply cnd_c | with_reducible apply grd_c | with_reducible apply pck_c) <;> intro wh <;> (try rewrite [wh]) <;> try simp only [wdw] at wh) <;> (try (revert wh; intro _)) <;> try (exfalso; omega)) | refine andi ?_ | fail))
  refine ecall_n hPt (by simp) (by omega) ?_
  (repeat' (first | simp -implicitDefEqProofs (disch := omega) only [go_sem, ↓reduceIte, Tb.c, pr, ofT, hg] | (((first | with_reducible apply cnd_c | with_reducible apply grd_c | with_reducible apply pck_c) <;> intro wh <;> (try rewrite [wh]) <;> try simp only [wdw] at wh) <;> (try (revert wh; intro _)) <;> try (exfalso; omega)) | refine andi ?_ | ((with_reducible refine callM_id ?_); refine callM_i hNm ?_) | fail))
  omega
end Go.Proofs.Fathom
