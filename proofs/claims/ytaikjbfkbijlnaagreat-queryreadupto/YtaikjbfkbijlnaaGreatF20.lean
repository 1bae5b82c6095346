/- A part of the proof of 'Rows.QueryReadUptoSaid': for every text and every seeds (of bulk at most 1048576 together) fathomlaw19.QueryRead returns true and its arguments read afterwards as before. -/
import Derived.Test.YtaikjbfkbijlnaaGreatF19
set_option linter.unusedVariables false
set_option linter.unusedSimpArgs false
namespace Go.Proofs.Fathom
open Go Go.Proofs
attribute [local irreducible] PSpec CSpec
def Fn.cnt (f : Fn) : Nat := (tcount 1 f.types).1.toNat
def ptsF (seeds : List Int) (k : Nat) (f : Fn) : List Int :=
  if seeds = [] then List.replicate f.cnt 0 else (List.range f.cnt).map fun j => seeds.getD ((k + j) % seeds.length) 0 % (rtop f.typ + 1)
def kNext (seeds : List Int) (k : Nat) (f : Fn) : Nat := if seeds = [] then k else k + f.cnt
def kAt (seeds : List Int) : List Fn → Nat
  | [] => 0
  | p => p.foldl (kNext seeds) 0
def kSum (seeds : List Int) (p : List Fn) (i : Nat) : Nat := (p.take i).foldl (kNext seeds) 0
def tabsF (seeds : List Int) (p : List Fn) : List Tb := (List.range p.length).map fun i => match p[i]? with
  | some f => ofT f.types f.typ (ptsF seeds (kSum seeds p i) f)
  | none => ofT [] 0 []
def tabV (ts : List Tb) : List (List V) := ts.map Tb.c
theorem ptsF_len (seeds : List Int) (k : Nat) (f : Fn) : (ptsF seeds k f).length = f.cnt := by unfold ptsF; split <;> simp
theorem Fn.cnt_le (f : Fn) : f.cnt ≤ 4096 ∧ (f.cnt : Int) = (tcount 1 f.types).1 := by
  have := tcount_le f.types 1 (by omega) (by omega)
  unfold Fn.cnt
  omega
theorem ptsF_le (seeds : List Int) (k : Nat) (f : Fn) (ht : topE f.typ = 0) : ∀ x ∈ ptsF seeds k f, 0 ≤ x ∧ x ≤ rtop f.typ := by
  have hr := rtop_ok ht
  intro x hx
  unfold ptsF at hx
  split at hx
  · have := (List.mem_replicate.1 hx).2; omega
  · obtain ⟨j, _, rfl⟩ := List.mem_map.1 hx
    have h1 := Int.emod_nonneg (seeds.getD ((k + j) % seeds.length) 0) (show rtop f.typ + 1 ≠ 0 by omega)
    have h2 := Int.emod_lt_of_pos (seeds.getD ((k + j) % seeds.length) 0) (show 0 < rtop f.typ + 1 by omega)
    omega
theorem ptsF_4 (seeds : List Int) (k : Nat) (f : Fn) (ht : topE f.typ = 0) : pts4 (ptsF seeds k f) := fun x hx => by
  have := ptsF_le seeds k f ht x hx
  have hr := rtop_ok ht
  omega
theorem kSum_succ (seeds : List Int) (p : List Fn) (i : Nat) (h : i < p.length) : kSum seeds p (i + 1) = kNext seeds (kSum seeds p i) p[i] := by
  unfold kSum
  rw [List.take_succ_eq_append_getElem h, List.foldl_append]
  rfl
theorem kSum_le (seeds : List Int) (p : List Fn) : ∀ i, kSum seeds p i ≤ 4096 * i
  | 0 => by simp [kSum]
  | i + 1 => by
    by_cases h : i < p.length
    · rw [kSum_succ seeds p i h]
      have := kSum_le seeds p i
      have := (p[i]).cnt_le
      unfold kNext
      split <;> omega
    · have := kSum_le seeds p i
      have e : kSum seeds p (i + 1) = kSum seeds p i := by unfold kSum; rw [List.take_of_length_le (by omega), List.take_of_length_le (by omega)]
      omega
theorem tabsF_len (seeds : List Int) (p : List Fn) : (tabsF seeds p).length = p.length := by simp [tabsF]
theorem tabsF_get (seeds : List Int) (p : List Fn) (i : Nat) (h : i < p.length) : (tabsF seeds p)[i]? = some (ofT p[i].types p[i].typ (ptsF seeds (kSum seeds p i) p[i])) := by
  simp only [tabsF, List.getElem?_map]
  rw [List.getElem?_range h]
  simp [h]
def u8ok (l : List Int) : Prop := ∀ x ∈ l, 0 ≤ x ∧ x < 256
theorem law17_Tables (k : Tok) (seeds : List Int) (p : List Fn) (hu : u8ok seeds) (hsl : seeds.length ≤ 100000000) (hpl : p.length ≤ 1000000) (hp : ∀ f ∈ p, f.params.length ≤ 1000000 ∧ topE f.typ = 0) :
    PS F_fathomlaw17_Tables [progV p, .sl k 1 (u8s seeds)] (.sl .no 4 (tabV (tabsF seeds p))) := by
  refine pspec' mixed w_fathomlaw17_Tables (by simp) (by simp [V.bd, tabV, bdss_map (Tb.bd 0)]) fun n => ?_
  unfold c_fathomlaw17_Tables r_fathomlaw17_Tables
  (repeat' (first | simp -implicitDefEqProofs (disch := omega) only [go_sem, ↓reduceIte, progV] | (((first | with_reducible apply cnd_c | with_reducible apply grd_c | with_reducible apply pck_c) <;> intro wh <;> (try rewrite [wh]) <;> try simp only [wdw] at wh) <;> (try (revert wh; intro _)) <;> try (exfalso; omega)) | refine andi ?_ | fail))
  refine loop_rule (fun s : Nat × Nat => ⟨ofL [(1, .sl k 1 (u8s seeds)), (2, .cref [.sl .no 11 (p.map Fn.c)]), (5, .sl (.tip n) 4 (tabV ((tabsF seeds p).take s.1))), (6, I (kSum seeds p s.1)), (7, I s.1)], upd (fun _ => none) n (some (.tip 4 s.1)), s.2, 78, n⟩) (fun s => p.length - s.1)
    (fun s => s.1 ≤ p.length ∧ n + 1 ≤ s.2) (0, n + 1) (by simp [tabV, kSum]) ⟨by omega, Nat.le_refl _⟩ fun s hs => ?_
  obtain ⟨i, x⟩ := s
  obtain ⟨hi, hx⟩ := hs
  simp only at hi hx ⊢
  (simp -implicitDefEqProofs (disch := omega) only [go_sem, ↓reduceIte, progV])
  (repeat (with_reducible apply And.intro; next => omega))
  ((first | with_reducible apply cnd_c | with_reducible apply grd_c | with_reducible apply pck_c) <;> intro h <;> (try rewrite [h]) <;> try simp only [wdw] at h)
  · (repeat' (first | simp -implicitDefEqProofs (disch := omega) only [go_sem, ↓reduceIte] | (((first | with_reducible apply cnd_c | with_reducible apply grd_c | with_reducible apply pck_c) <;> intro wh <;> (try rewrite [wh]) <;> try simp only [wdw] at wh) <;> (try (revert wh; intro _)) <;> try (exfalso; omega)) | refine andi ?_ | fail))
    rw [List.take_of_length_le (by rw [tabsF_len]; omega)]
  · have hlt : i < p.length := by omega
    obtain ⟨hf1, hf2⟩ := hp _ (List.getElem_mem hlt)
    have hcn := (p[i]).cnt_le
    have hc1 : (tcount 1 p[i].types).1 = (p[i].cnt : Int) := hcn.2.symm
    have hks := kSum_le seeds p i
    have hpl2 := ptsF_len seeds (kSum seeds p i) p[i]
    have hr := rtop_ok hf2
    (repeat' (first | simp -implicitDefEqProofs (disch := omega) only [go_sem, ↓reduceIte, getq hlt, pr, Fn.c, hc1] | (((first | with_reducible apply cnd_c | with_reducible apply grd_c | with_reducible apply pck_c) <;> intro wh <;> (try rewrite [wh]) <;> try simp only [wdw] at wh) <;> (try (revert wh; intro _)) <;> try (exfalso; omega)) | refine andi ?_ | ((with_reducible refine callM_id ?_); refine callM_i (ref17_Types p[i] hf1) ?_) | ((with_reducible refine callM_id ?_); refine callM_i (ref16_Count' _ p[i].types (by simp [Fn.types]; omega)) ?_) | fail))
    refine loop_rule (fun j : Nat => ⟨ofL [(1, .sl k 1 (u8s seeds)), (2, .cref [.sl .no 11 (p.map Fn.c)]), (5, .sl (.tip n) 4 (tabV ((tabsF seeds p).take i))), (6, I ((kSum seeds p i : Nat) + j)), (7, I i), (8, .sl .no 1 (ints p[i].types)), (9, I p[i].cnt), (11, .row x p[i].cnt 1 0 p[i].cnt), (12, I j)],
        upd (upd (fun _ => none) n (some (.tip 4 i))) x (some (.row 1 (ints ((ptsF seeds (kSum seeds p i) p[i]).take j ++ List.replicate (p[i].cnt - j) 0)))), x + 1, 78, n⟩) (fun j => p[i].cnt - j)
      (fun j => j ≤ p[i].cnt ∧ (seeds = [] → j = 0)) 0 (by simp [ints]) ⟨by omega, fun _ => rfl⟩ fun j hj => ?_
    obtain ⟨hj1, hj2⟩ := hj
    have hL : ((ptsF seeds (kSum seeds p i) p[i]).take j ++ List.replicate (p[i].cnt - j) (0 : Int)).length = p[i].cnt := by
      rw [List.length_append, List.length_take, List.length_replicate, hpl2]; omega
    have hX : p[i].cnt ≤ j ∨ (seeds.length : Int) ≤ 0 → List.take p[i].cnt (ints ((ptsF seeds (kSum seeds p i) p[i]).take j ++ List.replicate (p[i].cnt - j) 0)) = ints (ptsF seeds (kSum seeds p i) p[i]) := fun hc => by
      rw [List.take_of_length_le (by rw [ints_len, hL]; exact Nat.le_refl _)]
      congr 1
      rcases hc with hc | hc
      · rw [List.take_of_length_le (by omega), show p[i].cnt - j = 0 by omega]; simp
      · have hs : seeds = [] := List.eq_nil_of_length_eq_zero (by omega)
        have hj0 := hj2 hs
        subst hj0
        simp [ptsF, hs]
    have hN : p[i].cnt ≤ j ∨ (seeds.length : Int) ≤ 0 → kSum seeds p (i + 1) = kSum seeds p i + j := fun hc => by
      rw [kSum_succ seeds p i hlt]
      unfold kNext
      rcases hc with hc | hc
      · split
        · rename_i hs; rw [hj2 hs]; rfl
        · omega
      · have hs : seeds = [] := List.eq_nil_of_length_eq_zero (by omega)
        rw [if_pos hs, hj2 hs]; rfl
    have hT : ∀ x, x = Tb.c (ofT p[i].types p[i].typ (ptsF seeds (kSum seeds p i) p[i])) → tabV ((tabsF seeds p).take i) ++ [x] = tabV ((tabsF seeds p).take (i + 1)) := fun x hx => by
      subst hx
      have hg := tabsF_get seeds p i hlt
      have hlt2 : i < (tabsF seeds p).length := by rw [tabsF_len]; exact hlt
      rw [List.take_succ_eq_append_getElem hlt2, getq hlt2] at *
      simp only [Option.some.injEq] at hg
      rw [hg]
      simp [tabV]
    have h4 := ptsF_4 seeds (kSum seeds p i) p[i] hf2
    have hOf := ref16_Of .no .no p[i].types p[i].typ (ptsF seeds (kSum seeds p i) p[i]) (by simp [Fn.types]; omega) (by rw [hpl2]; omega) h4
    have hTl : (tabV ((tabsF seeds p).take i)).length = i := by simp [tabV, tabsF_len]; omega
    have hO : ∀ o, upd (upd (upd (fun _ => none) n (some (AObj.tip 4 i))) x none) n o = upd (fun _ => none) n o := fun o => by
      funext q; simp only [upd]; repeat' split
      all_goals first | rfl | omega
    have hT2 := hT _ rfl
    simp only [Tb.c] at hT2
    (repeat' (first | simp -implicitDefEqProofs (disch := omega) only [go_sem, ↓reduceIte, getq hlt, Fn.c, hL] | (((first | with_reducible apply cnd_c | with_reducible apply grd_c | with_reducible apply pck_c) <;> intro wh <;> (try rewrite [wh]) <;> try simp only [wdw] at wh) <;> (try (revert wh; intro _)) <;> try (exfalso; omega)) | refine andi ?_ | fail))
    · rename_i hc
      rw [hX (.inl hc)]
      refine callM_i hOf ?_
      (repeat' (first | simp -implicitDefEqProofs (disch := omega) only [go_sem, ↓reduceIte, Tb.c, hTl] | (((first | with_reducible apply cnd_c | with_reducible apply grd_c | with_reducible apply pck_c) <;> intro wh <;> (try rewrite [wh]) <;> try simp only [wdw] at wh) <;> (try (revert wh; intro _)) <;> try (exfalso; omega)) | refine andi ?_ | fail))
      refine ⟨(i + 1, x + 1), ⟨by simp only; omega, by simp only; omega⟩, by simp only; omega, ?_⟩
      rw [hT2, hO, hN (.inl hc)]
      simp
    · rename_i hc
      rw [hX (.inr hc)]
      refine callM_i hOf ?_
      (repeat' (first | simp -implicitDefEqProofs (disch := omega) only [go_sem, ↓reduceIte, Tb.c, hTl] | (((first | with_reducible apply cnd_c | with_reducible apply grd_c | with_reducible apply pck_c) <;> intro wh <;> (try rewrite [wh]) <;> try simp only [wdw] at wh) <;> (try (revert wh; intro _)) <;> try (exfalso; omega)) | refine andi ?_ | fail))
      refine ⟨(i + 1, x + 1), ⟨by simp only; omega, by simp only; omega⟩, by simp only; omega, ?_⟩
      rw [hT2, hO, hN (.inr hc)]
      simp
    · rename_i hj3 hs3
      have hm : (kSum seeds p i + j) % seeds.length < seeds.length := Nat.mod_lt _ (by omega)
      have e1 : (((kSum seeds p i : Nat) : Int) + (j : Int)).tmod (seeds.length : Int) = (((kSum seeds p i + j) % seeds.length : Nat) : Int) := by
        rw [Int.tmod_eq_emod_of_nonneg (by omega)]; push_cast; rfl
      have hb := hu _ (List.getElem_mem hm)
      have e5 : IntKind.i64.wrap seeds[(kSum seeds p i + j) % seeds.length] = seeds[(kSum seeds p i + j) % seeds.length] := wrap_i64 (by omega) (by omega)
      have e6 : (seeds[(kSum seeds p i + j) % seeds.length]).tmod (rtop p[i].typ + 1) = seeds[(kSum seeds p i + j) % seeds.length] % (rtop p[i].typ + 1) := Int.tmod_eq_emod_of_nonneg hb.1
      have hne : ¬ seeds = [] := fun e => by subst e; simp at hs3
      have hG : ((ptsF seeds (kSum seeds p i) p[i]).take j ++ List.replicate (p[i].cnt - j) (0 : Int))[j]? = some 0 := by
        rw [List.getElem?_append_right (by rw [List.length_take]; omega), List.length_take, hpl2, show j - min j p[i].cnt = 0 by omega]
        rw [show p[i].cnt - j = (p[i].cnt - j - 1) + 1 by omega, List.replicate_succ]; rfl
      have hv : (ptsF seeds (kSum seeds p i) p[i])[j]? = some (seeds[(kSum seeds p i + j) % seeds.length] % (rtop p[i].typ + 1)) := by
        unfold ptsF
        rw [if_neg hne, List.getElem?_map, List.getElem?_range hj3, Option.map_some, List.getD_eq_getElem?_getD, getq hm]
        rfl
      have hS : (ints ((ptsF seeds (kSum seeds p i) p[i]).take j ++ List.replicate (p[i].cnt - j) 0)).set j [V.int .i64 (seeds[(kSum seeds p i + j) % seeds.length] % (rtop p[i].typ + 1))] = ints ((ptsF seeds (kSum seeds p i) p[i]).take (j + 1) ++ List.replicate (p[i].cnt - (j + 1)) 0) := by
        simp only [ints, ← List.map_set (f := fun s => [V.int .i64 s])]
        congr 1
        have hjl : j < (ptsF seeds (kSum seeds p i) p[i]).length := by omega
        rw [List.set_append_right _ _ (by rw [List.length_take]; omega), List.length_take, hpl2, show j - min j p[i].cnt = 0 by omega, show p[i].cnt - j = (p[i].cnt - (j + 1)) + 1 by omega, List.replicate_succ, List.set_cons_zero]
        rw [List.take_succ_eq_append_getElem hjl, List.append_assoc]
        rw [getq hjl] at hv
        simp only [Option.some.injEq] at hv
        rw [hv]; rfl
      (repeat' (first | simp -implicitDefEqProofs (disch := omega) only [go_sem, ↓reduceIte, getq hlt, Fn.c, hL, e1, getq hm, e5, e6, hG, hS] | (((first | with_reducible apply cnd_c | with_reducible apply grd_c | with_reducible apply pck_c) <;> intro wh <;> (try rewrite [wh]) <;> try simp only [wdw] at wh) <;> (try (revert wh; intro _)) <;> try (exfalso; omega)) | refine andi ?_ | ((with_reducible refine callM_id ?_); refine callM_i (ref15_Top _) ?_) | fail))
      refine ⟨j + 1, ⟨by omega, fun e => absurd e hne⟩, by omega, ?_⟩
      congr 1
end Go.Proofs.Fathom
set_option linter.unusedVariables false
namespace Go.Proofs.Fathom
open Go Go.Proofs
def xok : List Int → List Int → Prop
  | [], [] => True
  | t :: ps, x :: xs => 0 ≤ x ∧ x ≤ topP t ∧ xok ps xs
  | _, _ => False
def tval : List Int → List Int → Int
  | t :: ps, x :: xs => x * prodT ps + tval ps xs
  | _, _ => 0
theorem xok_len : ∀ {ps xs : List Int}, xok ps xs → xs.length = ps.length
  | [], [], _ => rfl
  | t :: ps, x :: xs, h => by simp [xok_len h.2.2]
  | [], _ :: _, h => h.elim
  | _ :: _, [], h => h.elim
theorem tnum_val : ∀ {ps xs : List Int} (n : Int), (∀ t ∈ ps, topE t = 0) → xok ps xs → tnum n ps xs = (n * prodT ps + tval ps xs, 0)
  | [], [], n, _, _ => by simp [tnum, prodT, tval]
  | t :: ps, x :: xs, n, ht, h => by
    have h0 : topE t = 0 := ht t (by simp)
    have hp : pcheck t x = 0 := by
      unfold pcheck
      rw [if_neg (by have := h.1; have := h.2.1; omega)]
      exact h0
    simp only [tnum, hp]
    rw [if_neg (by simp), tnum_val _ (fun u hu => ht u (by simp [hu])) h.2.2]
    simp only [prodT, tval, Prod.mk.injEq, and_true]
    rw [Int.add_mul, Int.mul_assoc, Int.add_assoc]
  | [], _ :: _, _, _, h => h.elim
  | _ :: _, [], _, _, h => h.elim
theorem tnumber_val {ps xs : List Int} (hc : (tcount 1 ps).2 = 0) (h : xok ps xs) : tnumber ps xs = (tval ps xs, 0) := by
  obtain ⟨h1, _, _⟩ := tcount_ok ps 1 (by omega) (by omega) hc
  unfold tnumber
  rw [if_neg (by simp [hc]), if_neg (by simp [xok_len h]), tnum_val 0 h1 h]
  simp
theorem tval_bd : ∀ {ps xs : List Int}, xok ps xs → 0 ≤ tval ps xs ∧ tval ps xs < prodT ps
  | [], [], _ => by simp [tval, prodT]
  | t :: ps, x :: xs, h => by
    have ih := tval_bd h.2.2
    have hp := prodT_pos ps
    simp only [tval, prodT]
    have h1 : 0 ≤ x * prodT ps := Int.mul_nonneg h.1 (by omega)
    have h2 : x * prodT ps ≤ topP t * prodT ps := Int.mul_le_mul_of_nonneg_right h.2.1 (by omega)
    rw [Int.add_mul]
    omega
  | [], _ :: _, h => h.elim
  | _ :: _, [], h => h.elim
theorem tdig_val : ∀ {ps xs : List Int} (m : Int), (∀ t ∈ ps, topE t = 0) → xok ps xs → tdig ps (m * prodT ps + tval ps xs) = (xs, m)
  | [], [], m, _, _ => by simp [tdig, prodT, tval]
  | t :: ps, x :: xs, m, ht, h => by
    have h0 : topE t = 0 := ht t (by simp)
    have hr := rtop_ok h0
    have he := rtop_eq h0
    have e : m * prodT (t :: ps) + tval (t :: ps) (x :: xs) = (m * (topP t + 1) + x) * prodT ps + tval ps xs := by
      simp only [prodT, tval]
      rw [Int.add_mul (m * (topP t + 1)), Int.mul_assoc, Int.add_assoc]
    rw [e]
    simp only [tdig]
    rw [tdig_val _ (fun u hu => ht u (by simp [hu])) h.2.2, he]
    have h1 := h.1
    have h2 := h.2.1
    have e1 : (m * (topP t + 1) + x) % (topP t + 1) = x := by
      rw [Int.add_comm, Int.add_mul_emod_self_right]
      exact Int.emod_eq_of_lt h1 (by omega)
    have e2 : (m * (topP t + 1) + x) / (topP t + 1) = m := by
      rw [Int.add_comm, Int.add_mul_ediv_right _ _ (by omega), Int.ediv_eq_zero_of_lt h1 (by omega), Int.zero_add]
    simp only [e1, e2]
  | [], _ :: _, _, _, h => h.elim
  | _ :: _, [], _, _, h => h.elim
theorem tdig_ok : ∀ (ps : List Int) (n : Int), (∀ t ∈ ps, topE t = 0) → xok ps (tdig ps n).1 ∧ (tdig ps n).2 * prodT ps + tval ps (tdig ps n).1 = n
  | [], n, _ => by simp [tdig, xok, prodT, tval]
  | t :: ps, n, ht => by
    have h0 : topE t = 0 := ht t (by simp)
    have hr := rtop_ok h0
    have he := rtop_eq h0
    obtain ⟨i1, i2⟩ := tdig_ok ps n fun u hu => ht u (by simp [hu])
    simp only [tdig, xok, tval, prodT]
    have m1 := Int.emod_nonneg (tdig ps n).2 (show rtop t + 1 ≠ 0 by omega)
    have m2 := Int.emod_lt_of_pos (tdig ps n).2 (show 0 < rtop t + 1 by omega)
    refine ⟨⟨m1, by omega, i1⟩, ?_⟩
    have := Int.mul_ediv_add_emod (tdig ps n).2 (rtop t + 1)
    rw [he] at this
    rw [he]
    have e3 : ∀ a b c d e f : Int, a * (b * c) + (d * c + e) = (b * a + d) * c + e := fun a b c d e _ => by
      rw [Int.add_mul, ← Int.mul_assoc, Int.mul_comm a b, Int.add_assoc]
    rw [e3 _ _ _ _ _ 0, this]
    exact i2
theorem tdig_lt {ps : List Int} {n : Int} (ht : ∀ t ∈ ps, topE t = 0) (h0 : 0 ≤ n) (h1 : n < prodT ps) : tval ps (tdig ps n).1 = n := by
  obtain ⟨h2, h3⟩ := tdig_ok ps n ht
  have h4 := (tdig_rest ps n h0 ht).1
  have h5 := tval_bd h2
  have hp := prodT_pos ps
  have : (tdig ps n).2 = 0 := by
    rcases Int.lt_or_le 0 (tdig ps n).2 with h | h
    · have : 1 * prodT ps ≤ (tdig ps n).2 * prodT ps := Int.mul_le_mul_of_nonneg_right (by omega) (by omega)
      omega
    · omega
  rw [this] at h3
  omega
theorem xok_dec : ∀ {ps xs : List Int} (k : Nat) (x : Int), xok ps xs → xs[k]? = some x → x ≠ 0 → xok ps (xs.set k (x - 1)) ∧ tval ps (xs.set k (x - 1)) < tval ps xs
  | t :: ps, y :: xs, 0, x, h, hk, hx => by
    simp only [List.getElem?_cons_zero, Option.some.injEq] at hk
    subst hk
    have hp := prodT_pos ps
    have h1 := h.1
    have h2 := h.2.1
    simp only [List.set_cons_zero, xok, tval]
    refine ⟨⟨by omega, by omega, h.2.2⟩, ?_⟩
    rw [Int.sub_mul]
    omega
  | t :: ps, y :: xs, k + 1, x, h, hk, hx => by
    simp only [List.getElem?_cons_succ] at hk
    obtain ⟨h1, h2⟩ := xok_dec k x h.2.2 hk hx
    simp only [List.set_cons_succ, xok, tval]
    exact ⟨⟨h.1, h.2.1, h1⟩, by omega⟩
  | [], [], _, _, _, hk, _ => by simp at hk
  | [], _ :: _, _, _, h, _, _ => h.elim
  | _ :: _, [], _, _, h, _, _ => h.elim

/-- One place of one tuple. -/
def stepK (ps : List Int) (n : Nat) (c : List Int) (k : Nat) : List Int :=
  let x := (tdig ps n).1
  if x.getD k 0 = 0 then c else c.set n (max (c.getD n 0) (c.getD (tval ps (x.set k (x.getD k 0 - 1))).toNat 0))
def riseK (ps : List Int) (n : Nat) (c : List Int) (j : Nat) : List Int := (List.range j).foldl (stepK ps n) c
def riseN (ps : List Int) (c : List Int) (i : Nat) : List Int := (List.range i).foldl (fun c n => riseK ps n c ps.length) c
theorem riseK_succ (ps : List Int) (n : Nat) (c : List Int) (j : Nat) : riseK ps n c (j + 1) = stepK ps n (riseK ps n c j) j := by
  simp [riseK, List.range_succ]
theorem riseN_succ (ps : List Int) (c : List Int) (i : Nat) : riseN ps c (i + 1) = riseK ps i (riseN ps c i) ps.length := by
  simp [riseN, List.range_succ]
theorem stepK_len (ps : List Int) (n : Nat) (c : List Int) (k : Nat) : (stepK ps n c k).length = c.length := by
  unfold stepK; simp only; split <;> simp
theorem riseK_len (ps : List Int) (n : Nat) (c : List Int) : ∀ j, (riseK ps n c j).length = c.length
  | 0 => rfl
  | j + 1 => by rw [riseK_succ, stepK_len, riseK_len ps n c j]
theorem riseN_len (ps : List Int) (c : List Int) : ∀ i, (riseN ps c i).length = c.length
  | 0 => rfl
  | i + 1 => by rw [riseN_succ, riseK_len, riseN_len ps c i]
theorem getD_set_ne {l : List Int} {i j : Nat} {x : Int} (h : i ≠ j) : (l.set i x).getD j 0 = l.getD j 0 := by
  rw [List.getD_eq_getElem?_getD, List.getD_eq_getElem?_getD, List.getElem?_set_ne h]
theorem getD_set_eq {l : List Int} {i : Nat} {x : Int} (h : i < l.length) : (l.set i x).getD i 0 = x := by
  rw [List.getD_eq_getElem?_getD, List.getElem?_set_self h]; rfl
theorem stepK_ne (ps : List Int) (n : Nat) (c : List Int) (k : Nat) {m : Nat} (h : n ≠ m) : (stepK ps n c k).getD m 0 = c.getD m 0 := by
  unfold stepK; simp only; split
  · rfl
  · exact getD_set_ne h
theorem riseK_ne (ps : List Int) (n : Nat) (c : List Int) {m : Nat} (h : n ≠ m) : ∀ j, (riseK ps n c j).getD m 0 = c.getD m 0
  | 0 => rfl
  | j + 1 => by rw [riseK_succ, stepK_ne _ _ _ _ h, riseK_ne ps n c h j]
theorem riseN_ge (ps : List Int) (c : List Int) (m : Nat) : ∀ d, (riseN ps c (m + 1 + d)).getD m 0 = (riseN ps c (m + 1)).getD m 0
  | 0 => rfl
  | d + 1 => by rw [← Nat.add_assoc, riseN_succ, riseK_ne _ _ _ (by omega), riseN_ge ps c m d]
theorem stepK_mono (ps : List Int) (n : Nat) (c : List Int) (k : Nat) : c.getD n 0 ≤ (stepK ps n c k).getD n 0 := by
  unfold stepK; simp only; split
  · exact Int.le_refl _
  · by_cases h : n < c.length
    · rw [getD_set_eq h]; omega
    · rw [List.set_eq_of_length_le (by omega)]; exact Int.le_refl _
theorem riseK_mono (ps : List Int) (n : Nat) (c : List Int) (j : Nat) : ∀ d, (riseK ps n c j).getD n 0 ≤ (riseK ps n c (j + d)).getD n 0
  | 0 => Int.le_refl _
  | d + 1 => by
    rw [← Nat.add_assoc, riseK_succ]
    exact Int.le_trans (riseK_mono ps n c j d) (stepK_mono _ _ _ _)
def numD (ps : List Int) (n k : Nat) : Nat := (tval ps ((tdig ps n).1.set k ((tdig ps n).1.getD k 0 - 1))).toNat
/-- In a risen table no point is less than one below it. -/
theorem rise_law (ps : List Int) (ht : ∀ t ∈ ps, topE t = 0) (c : List Int) (hN : (c.length : Int) = prodT ps) (n k : Nat) (hn : n < c.length) (hk : k < ps.length) (hx : (tdig ps n).1.getD k 0 ≠ 0) :
    (riseN ps c c.length).getD (numD ps n k) 0 ≤ (riseN ps c c.length).getD n 0 := by
  have hlen := tdig_len ps n
  have hg : (tdig ps n).1[k]? = some ((tdig ps n).1.getD k 0) := by
    rw [List.getD_eq_getElem?_getD, getq (by omega)]; rfl
  obtain ⟨h1, h2⟩ := xok_dec k _ (tdig_ok ps n ht).1 hg hx
  have h3 := tdig_lt ht (by omega : (0 : Int) ≤ n) (by omega)
  have h4 := (tval_bd h1).1
  have hm : numD ps n k < n := by unfold numD; omega
  have e1 : (riseN ps c c.length).getD n 0 = (riseN ps c (n + 1)).getD n 0 := by
    have := riseN_ge ps c n (c.length - (n + 1))
    rwa [show n + 1 + (c.length - (n + 1)) = c.length by omega] at this
  have e2 : (riseN ps c c.length).getD (numD ps n k) 0 = (riseN ps c n).getD (numD ps n k) 0 := by
    have a := riseN_ge ps c (numD ps n k) (c.length - (numD ps n k + 1))
    have b := riseN_ge ps c (numD ps n k) (n - (numD ps n k + 1))
    rw [show numD ps n k + 1 + (c.length - (numD ps n k + 1)) = c.length by omega] at a
    rw [show numD ps n k + 1 + (n - (numD ps n k + 1)) = n by omega] at b
    rw [a, b]
  rw [e1, e2, riseN_succ]
  have hs : (riseN ps c n).getD (numD ps n k) 0 ≤ (riseK ps n (riseN ps c n) (k + 1)).getD n 0 := by
    rw [riseK_succ]
    unfold stepK
    simp only
    rw [if_neg hx, getD_set_eq (by rw [riseK_len, riseN_len]; exact hn), ← riseK_ne ps n (riseN ps c n) (by omega : n ≠ numD ps n k) k]
    unfold numD
    omega
  refine Int.le_trans hs ?_
  have := riseK_mono ps n (riseN ps c n) (k + 1) (ps.length - (k + 1))
  rwa [show k + 1 + (ps.length - (k + 1)) = ps.length by omega] at this
/-- The points stay within. -/
def within (c : List Int) (a b : Int) : Prop := ∀ p ∈ c, a ≤ p ∧ p ≤ b
theorem within_getD {c : List Int} {a b : Int} (h : within c a b) (ha : a ≤ 0) (hb : 0 ≤ b) (i : Nat) : a ≤ c.getD i 0 ∧ c.getD i 0 ≤ b := by
  rw [List.getD_eq_getElem?_getD]
  by_cases hi : i < c.length
  · rw [getq hi]; exact h _ (List.getElem_mem hi)
  · rw [List.getElem?_eq_none (by omega)]; exact ⟨ha, hb⟩
theorem stepK_within {ps : List Int} {n k : Nat} {c : List Int} {b : Int} (hb : 0 ≤ b) (h : within c 0 b) : within (stepK ps n c k) 0 b := by
  unfold stepK; simp only; split
  · exact h
  · intro p hp
    rcases List.mem_or_eq_of_mem_set hp with hp | rfl
    · exact h p hp
    · have h1 := within_getD h (Int.le_refl 0) hb n
      have h2 := within_getD h (Int.le_refl 0) hb (tval ps ((tdig ps n).1.set k ((tdig ps n).1.getD k 0 - 1))).toNat
      omega
theorem riseK_within {ps : List Int} {n : Nat} {c : List Int} {b : Int} (hb : 0 ≤ b) (h : within c 0 b) : ∀ j, within (riseK ps n c j) 0 b
  | 0 => h
  | j + 1 => by rw [riseK_succ]; exact stepK_within hb (riseK_within hb h j)
theorem riseN_within {ps : List Int} {c : List Int} {b : Int} (hb : 0 ≤ b) (h : within c 0 b) : ∀ i, within (riseN ps c i) 0 b
  | 0 => h
  | i + 1 => by rw [riseN_succ]; exact riseK_within hb (riseN_within hb h i) _
end Go.Proofs.Fathom
set_option linter.unusedVariables false
set_option linter.unusedSimpArgs false
namespace Go.Proofs.Fathom
open Go Go.Proofs
attribute [local irreducible] PSpec CSpec
theorem xok_le : ∀ {ps xs : List Int}, xok ps xs → ∀ x ∈ xs, 0 ≤ x ∧ x ≤ 3
  | [], [], _, x, h => by simp at h
  | t :: ps, y :: xs, hx, x, h => by
    rcases List.mem_cons.1 h with rfl | h
    · have := topP_le t; have h1 := hx.1; have h2 := hx.2.1; omega
    · exact xok_le hx.2.2 x h
  | [], _ :: _, h, _, _ => h.elim
  | _ :: _, [], h, _, _ => h.elim
theorem getDq {l : List Int} {i : Nat} (h : i < l.length) : l[i]? = some (l.getD i 0) := by
  rw [List.getD_eq_getElem?_getD, getq h]; rfl
theorem ints_set (l : List Int) (j : Nat) (a : Int) : (ints l).set j [V.int .i64 a] = ints (l.set j a) := by
  simp only [ints, List.map_set]
def FnOk (f : Fn) : Prop := f.params.length ≤ 1000000 ∧ topE f.typ = 0 ∧ (tcount 1 f.types).2 = 0
theorem FnOk.cnt {f : Fn} (h : FnOk f) : (f.cnt : Int) = prodT f.types ∧ (tcount 1 f.types) = ((f.cnt : Int), 0) ∧ f.cnt ≤ 4096 ∧ ∀ t ∈ f.types, topE t = 0 := by
  obtain ⟨h1, h2, h3⟩ := tcount_ok f.types 1 (by omega) (by omega) h.2.2
  have h4 := f.cnt_le
  refine ⟨by omega, ?_, h4.1, h1⟩
  rw [h4.2, ← h.2.2]
def risP (seeds : List Int) (p : List Fn) (i : Nat) (f : Fn) : List Int := riseN f.types (ptsF seeds (kSum seeds p i) f) f.cnt
def risF (seeds : List Int) (p : List Fn) : List Tb := (List.range p.length).map fun i => match p[i]? with
  | some f => ofT f.types f.typ (risP seeds p i f)
  | none => ofT [] 0 []
theorem risF_len (seeds : List Int) (p : List Fn) : (risF seeds p).length = p.length := by simp [risF]
theorem risF_get (seeds : List Int) (p : List Fn) (i : Nat) (h : i < p.length) : (risF seeds p)[i]? = some (ofT p[i].types p[i].typ (risP seeds p i p[i])) := by
  simp only [risF, List.getElem?_map]
  rw [List.getElem?_range h]
  simp [h]
theorem points_of (n : Nat) (ps : List Int) (t : Int) (l : List Int) (hl : ps.length ≤ 1000000000) (hc : tcount 1 ps = ((l.length : Int), 0)) (ht : 0 ≤ rtop t) (hw : within l 0 (rtop t)) :
    CS F_fathomref16_Points [.agg (ofT ps t l).c] [] n (.tup [.row n l.length 1 0 l.length, .bool true]) [(n, .row 1 (ints l))] (n + 1) := by
  have hr := rtop_le t
  have h4 : pts4 l := fun x hx => by have := hw x hx; omega
  have hn := tcount_le ps 1 (by omega) (by omega)
  rw [hc] at hn
  have hN : (ofT ps t l).n.toNat = l.length := by simp [ofT]
  have h := ref16_Points n (ofT ps t l) (packB_u64 h4) hl (packR_ok2 h4 (by simp only at hn; omega)) hc ht (by
    rw [hN]
    show ∀ c ∈ cellsN (packB l) l.length, _
    rw [cellsN_pack h4]
    exact fun c hc => (hw c hc).2)
  rw [hN] at h
  have e : cellsN (ofT ps t l).bits l.length = l := cellsN_pack h4
  rwa [e] at h
theorem ptsF_within (seeds : List Int) (k : Nat) {f : Fn} (h : FnOk f) : within (ptsF seeds k f) 0 (rtop f.typ) := ptsF_le seeds k f h.2.1
theorem law17_Rising (k : Tok) (seeds : List Int) (p : List Fn) (hu : u8ok seeds) (hsl : seeds.length ≤ 100000000) (hpl : p.length ≤ 1000000) (hp : ∀ f ∈ p, FnOk f) :
    PS F_fathomlaw17_Rising [progV p, .sl k 1 (u8s seeds)] (.sl .no 4 (tabV (risF seeds p))) := by
  refine pspec' mixed w_fathomlaw17_Rising (by simp) (by simp [V.bd, tabV, bdss_map (Tb.bd 0)]) fun n => ?_
  unfold c_fathomlaw17_Rising r_fathomlaw17_Rising
  (repeat' (first | simp -implicitDefEqProofs (disch := omega) only [go_sem, ↓reduceIte, progV] | (((first | with_reducible apply cnd_c | with_reducible apply grd_c | with_reducible apply pck_c) <;> intro wh <;> (try rewrite [wh]) <;> try simp only [wdw] at wh) <;> (try (revert wh; intro _)) <;> try (exfalso; omega)) | refine andi ?_ | ((with_reducible refine callM_id ?_); refine callM_i (law17_Tables k seeds p hu hsl hpl (fun f hf => ⟨(hp f hf).1, (hp f hf).2.1⟩)) ?_) | fail))
  refine loop_rule (fun s : Nat × Nat × Obs => ⟨ofL [(5, .sl (.tip n) 4 (tabV ((risF seeds p).take s.1))), (6, .sl .no 4 (tabV (tabsF seeds p))), (7, I s.1)], s.2.2, s.2.1, 110, n⟩) (fun s => p.length - s.1)
    (fun s => s.1 ≤ p.length ∧ n + 1 ≤ s.2.1 ∧ s.2.2 n = some (.tip 4 s.1)) (0, n + 1, upd (fun _ => none) n (some (.tip 4 0))) (by simp [tabV]) ⟨by simp only; omega, Nat.le_refl _, by simp [upd_same]⟩ fun s hs => ?_
  obtain ⟨i, x, ob⟩ := s
  obtain ⟨hi, hx, hob⟩ := hs
  simp only at hi hx hob ⊢
  have htl : (tabV (tabsF seeds p)).length = p.length := by simp [tabV, tabsF_len]
  (simp -implicitDefEqProofs (disch := omega) only [go_sem, ↓reduceIte, htl])
  ((first | with_reducible apply cnd_c | with_reducible apply grd_c | with_reducible apply pck_c) <;> intro h <;> (try rewrite [h]) <;> try simp only [wdw] at h)
  · (repeat' (first | simp -implicitDefEqProofs (disch := omega) only [go_sem, ↓reduceIte, hob] | (((first | with_reducible apply cnd_c | with_reducible apply grd_c | with_reducible apply pck_c) <;> intro wh <;> (try rewrite [wh]) <;> try simp only [wdw] at wh) <;> (try (revert wh; intro _)) <;> try (exfalso; omega)) | refine andi ?_ | fail))
    rw [List.take_of_length_le (by rw [risF_len]; omega)]
  · have hlt : i < p.length := by omega
    have hf := hp _ (List.getElem_mem hlt)
    obtain ⟨hc1, hc2, hc3, hc4⟩ := hf.cnt
    have hg : (tabV (tabsF seeds p))[i]? = some (Tb.c (ofT p[i].types p[i].typ (ptsF seeds (kSum seeds p i) p[i]))) := by
      simp only [tabV, List.getElem?_map, tabsF_get seeds p i hlt, Option.map_some]
    have hpl2 := ptsF_len seeds (kSum seeds p i) p[i]
    have hr := rtop_ok hf.2.1
    have hPt := points_of x p[i].types p[i].typ (ptsF seeds (kSum seeds p i) p[i]) (by have := hf.1; simp [Fn.types]; omega) (by rw [hpl2]; exact hc2) (by omega) (ptsF_within seeds _ hf)
    (repeat' (first | simp -implicitDefEqProofs (disch := omega) only [go_sem, ↓reduceIte, hg, Tb.c] | (((first | with_reducible apply cnd_c | with_reducible apply grd_c | with_reducible apply pck_c) <;> intro wh <;> (try rewrite [wh]) <;> try simp only [wdw] at wh) <;> (try (revert wh; intro _)) <;> try (exfalso; omega)) | refine andi ?_ | fail))
    refine ecall_n hPt (by simp) (by omega) ?_
    have hps : p[i].types.length ≤ 1000000000 := by have := hf.1; simp [Fn.types]; omega
    have hw0 := ptsF_within seeds (kSum seeds p i) hf
    (repeat' (first | simp -implicitDefEqProofs (disch := omega) only [go_sem, ↓reduceIte, hg, hpl2] | (((first | with_reducible apply cnd_c | with_reducible apply grd_c | with_reducible apply pck_c) <;> intro wh <;> (try rewrite [wh]) <;> try simp only [wdw] at wh) <;> (try (revert wh; intro _)) <;> try (exfalso; omega)) | refine andi ?_ | fail))
    refine loop_rule (fun s : Nat × Nat × Obs => ⟨ofL [(5, .sl (.tip n) 4 (tabV ((risF seeds p).take i))), (6, .sl .no 4 (tabV (tabsF seeds p))), (7, I i), (8, .row x p[i].cnt 1 0 p[i].cnt), (10, I s.1)], s.2.2, s.2.1, 110, n⟩) (fun s => p[i].cnt - s.1)
      (fun s => s.1 ≤ p[i].cnt ∧ x + 1 ≤ s.2.1 ∧ s.2.2 n = some (.tip 4 i) ∧ s.2.2 x = some (.row 1 (ints (riseN p[i].types (ptsF seeds (kSum seeds p i) p[i]) s.1)))) (0, x + 1, upd ob x (some (.row 1 (ints (ptsF seeds (kSum seeds p i) p[i]))))) rfl ⟨Nat.zero_le _, Nat.le_refl _, by simp only; rw [upd_ne _ _ (by omega)]; exact hob, by simp only; rw [upd_same]; rfl⟩ fun s hs => ?_
    obtain ⟨m, y, ob2⟩ := s
    obtain ⟨hm, hy, ho1, ho2⟩ := hs
    simp only at hm hy ho1 ho2 ⊢
    have hRl : (riseN p[i].types (ptsF seeds (kSum seeds p i) p[i]) m).length = p[i].cnt := by rw [riseN_len, hpl2]
    (simp -implicitDefEqProofs (disch := omega) only [go_sem, ↓reduceIte, ho2, hRl])
    ((first | with_reducible apply cnd_c | with_reducible apply grd_c | with_reducible apply pck_c) <;> intro h2 <;> (try rewrite [h2]) <;> try simp only [wdw] at h2)
    · have hmN : m = p[i].cnt := by omega
      subst hmN
      (repeat' (first | simp -implicitDefEqProofs (disch := omega) only [go_sem, ↓reduceIte, ho2, hg, Tb.c, hRl] | (((first | with_reducible apply cnd_c | with_reducible apply grd_c | with_reducible apply pck_c) <;> intro wh <;> (try rewrite [wh]) <;> try simp only [wdw] at wh) <;> (try (revert wh; intro _)) <;> try (exfalso; omega)) | refine andi ?_ | fail))
      have hRw := riseN_within (ps := p[i].types) (show 0 ≤ rtop p[i].typ by omega) hw0 p[i].cnt
      have hR4 : pts4 (riseN p[i].types (ptsF seeds (kSum seeds p i) p[i]) p[i].cnt) := fun q hq => by have := hRw q hq; omega
      have hOf := ref16_Of .no .no p[i].types p[i].typ (riseN p[i].types (ptsF seeds (kSum seeds p i) p[i]) p[i].cnt) hps (by rw [hRl]; omega) hR4
      rw [List.take_of_length_le (by rw [ints_len, hRl]; exact Nat.le_refl _)]
      refine callM_i hOf ?_
      have hTl : (tabV ((risF seeds p).take i)).length = i := by simp [tabV, risF_len]; omega
      have hT : tabV ((risF seeds p).take i) ++ [Tb.c (ofT p[i].types p[i].typ (riseN p[i].types (ptsF seeds (kSum seeds p i) p[i]) p[i].cnt))] = tabV ((risF seeds p).take (i + 1)) := by
        have hgr := risF_get seeds p i hlt
        have hlt2 : i < (risF seeds p).length := by rw [risF_len]; exact hlt
        rw [List.take_succ_eq_append_getElem hlt2]
        rw [getq hlt2] at hgr
        simp only [Option.some.injEq] at hgr
        rw [hgr]
        simp [tabV, risP]
      simp only [Tb.c] at hT
      (repeat' (first | simp -implicitDefEqProofs (disch := omega) only [go_sem, ↓reduceIte, Tb.c, hTl, ho1] | (((first | with_reducible apply cnd_c | with_reducible apply grd_c | with_reducible apply pck_c) <;> intro wh <;> (try rewrite [wh]) <;> try simp only [wdw] at wh) <;> (try (revert wh; intro _)) <;> try (exfalso; omega)) | refine andi ?_ | fail))
      refine ⟨(i + 1, y, upd (upd ob2 x none) n (some (.tip 4 (i + 1)))), ⟨by simp only; omega, by simp only; omega, by simp only; rw [upd_same]⟩, by simp only; omega, ?_⟩
      rw [hT]
      simp
    · have hmlt : m < p[i].cnt := by omega
      have hTu := ref16_Tuple y .no p[i].types m hps (by rw [hc2]) (by omega) (by rw [hc2]; simp only; omega)
      (repeat' (first | simp -implicitDefEqProofs (disch := omega) only [go_sem, ↓reduceIte, hg, Tb.c, ho2, hRl] | (((first | with_reducible apply cnd_c | with_reducible apply grd_c | with_reducible apply pck_c) <;> intro wh <;> (try rewrite [wh]) <;> try simp only [wdw] at wh) <;> (try (revert wh; intro _)) <;> try (exfalso; omega)) | refine andi ?_ | fail))
      refine ecall_n hTu (by simp) (by omega) ?_
      (repeat' (first | simp -implicitDefEqProofs (disch := omega) only [go_sem, ↓reduceIte] | (((first | with_reducible apply cnd_c | with_reducible apply grd_c | with_reducible apply pck_c) <;> intro wh <;> (try rewrite [wh]) <;> try simp only [wdw] at wh) <;> (try (revert wh; intro _)) <;> try (exfalso; omega)) | refine andi ?_ | fail))
      have hXl := tdig_len p[i].types m
      have hXk := (tdig_ok p[i].types m hc4).1
      refine loop_rule (fun s : Nat × Obs => ⟨ofL [(5, .sl (.tip n) 4 (tabV ((risF seeds p).take i))), (6, .sl .no 4 (tabV (tabsF seeds p))), (7, I i), (8, .row x p[i].cnt 1 0 p[i].cnt), (10, I m), (11, .row y p[i].types.length 1 0 p[i].types.length), (13, I s.1)], s.2, y + 1, 110, n⟩) (fun s => p[i].types.length - s.1)
        (fun s => s.1 ≤ p[i].types.length ∧ s.2 n = some (.tip 4 i) ∧ s.2 x = some (.row 1 (ints (riseK p[i].types m (riseN p[i].types (ptsF seeds (kSum seeds p i) p[i]) m) s.1))) ∧ s.2 y = some (.row 1 (ints (tdig p[i].types m).1))) (0, upd ob2 y (some (.row 1 (ints (tdig p[i].types m).1)))) rfl ⟨Nat.zero_le _, by simp only; rw [upd_ne _ _ (by omega)]; exact ho1, by simp only; rw [upd_ne _ _ (by omega)]; exact ho2, by simp only; rw [upd_same]⟩ fun s hs => ?_
      obtain ⟨j, ob3⟩ := s
      obtain ⟨hj, hq1, hq2, hq3⟩ := hs
      simp only at hj hq1 hq2 hq3 ⊢
      have hCl : (riseK p[i].types m (riseN p[i].types (ptsF seeds (kSum seeds p i) p[i]) m) j).length = p[i].cnt := by rw [riseK_len, hRl]
      (simp -implicitDefEqProofs (disch := omega) only [go_sem, ↓reduceIte, hq3, hXl])
      ((first | with_reducible apply cnd_c | with_reducible apply grd_c | with_reducible apply pck_c) <;> intro h3 <;> (try rewrite [h3]) <;> try simp only [wdw] at h3)
      · have hjN : j = p[i].types.length := by omega
        subst hjN
        (repeat' (first | simp -implicitDefEqProofs (disch := omega) only [go_sem, ↓reduceIte] | (((first | with_reducible apply cnd_c | with_reducible apply grd_c | with_reducible apply pck_c) <;> intro wh <;> (try rewrite [wh]) <;> try simp only [wdw] at wh) <;> (try (revert wh; intro _)) <;> try (exfalso; omega)) | refine andi ?_ | fail))
        refine ⟨(m + 1, y + 1, ob3), ⟨by simp only; omega, by simp only; omega, hq1, by simp only; rw [riseN_succ]; exact hq2⟩, by simp only; omega, rfl⟩
      · have hjlt : j < p[i].types.length := by omega
        have hjx : j < (tdig p[i].types m).1.length := by omega
        have hXg : (tdig p[i].types m).1[j]? = some ((tdig p[i].types m).1.getD j 0) := by
          rw [List.getD_eq_getElem?_getD, getq hjx]; rfl
        have hab := xok_le hXk _ (List.getElem_mem hjx)
        have hae : (tdig p[i].types m).1.getD j 0 = (tdig p[i].types m).1[j] := by rw [List.getD_eq_getElem?_getD, getq hjx]; rfl
        have hS1 : ∀ (l : List Int) (a : Int), (ints l).set j [V.int .i64 a] = ints (l.set j a) := fun l a => by
          simp only [ints, List.map_set]
        have hab2 : 0 ≤ (tdig p[i].types m).1.getD j 0 ∧ (tdig p[i].types m).1.getD j 0 ≤ 3 := by rw [hae]; exact hab
        (repeat' (first | simp -implicitDefEqProofs (disch := omega) only [go_sem, ↓reduceIte, hq3, hXl, hXg, hS1, hg, Tb.c] | (((first | with_reducible apply cnd_c | with_reducible apply grd_c | with_reducible apply pck_c) <;> intro wh <;> (try rewrite [wh]) <;> try simp only [wdw] at wh) <;> (try (revert wh; intro _)) <;> try (exfalso; omega)) | refine andi ?_ | fail))
        · rename_i h4
          obtain ⟨hk1, hk2⟩ := xok_dec j _ hXk hXg h4
          have hnum := tnumber_val (by rw [hc2]) hk1
          have hNm := ref16_Number .no .no p[i].types ((tdig p[i].types m).1.set j ((tdig p[i].types m).1.getD j 0 - 1)) hps
          rw [hnum] at hNm
          refine lndM_i (args := [.sl .no 1 (ints p[i].types), .sl .no 1 (ints ((tdig p[i].types m).1.set j ((tdig p[i].types m).1.getD j 0 - 1)))]) ?_ hNm rfl ?_
          · simp only [lends, lend1, upd_same]
            rw [if_pos ⟨trivial, by rw [ints_len, List.length_set, hXl]⟩]
            simp only [List.drop_zero, Nat.zero_add]
            rw [List.take_of_length_le (by rw [ints_len, List.length_set, hXl]; exact Nat.le_refl _)]
            rfl
          · have hvb := tval_bd hk1
            have hm0 := tdig_lt hc4 (by omega : (0 : Int) ≤ m) (by omega)
            have hL1 : ((tdig p[i].types m).1.set j ((tdig p[i].types m).1.getD j 0 - 1)).length = p[i].types.length := by rw [List.length_set, hXl]
            have hG1 : ((tdig p[i].types m).1.set j ((tdig p[i].types m).1.getD j 0 - 1))[j]? = some ((tdig p[i].types m).1.getD j 0 - 1) := List.getElem?_set_self hjx
            have hB : ((tdig p[i].types m).1.set j ((tdig p[i].types m).1.getD j 0 - 1)).set j ((tdig p[i].types m).1.getD j 0) = (tdig p[i].types m).1 := by
              rw [List.set_set, hae, List.set_getElem_self]
            have hC1 := getDq (l := riseK p[i].types m (riseN p[i].types (ptsF seeds (kSum seeds p i) p[i]) m) j) (i := m) (by omega)
            have hvl : (tval p[i].types ((tdig p[i].types m).1.set j ((tdig p[i].types m).1.getD j 0 - 1))).toNat < p[i].cnt := by omega
            have hC2 := getDq (l := riseK p[i].types m (riseN p[i].types (ptsF seeds (kSum seeds p i) p[i]) m) j) (i := (tval p[i].types ((tdig p[i].types m).1.set j ((tdig p[i].types m).1.getD j 0 - 1))).toNat) (by omega)
            (repeat' (first | simp -implicitDefEqProofs (disch := omega) only [go_sem, ↓reduceIte, pr, hL1, hG1, hS1, Int.sub_add_cancel, hB, hq2, hCl, hC1, hC2, V.isInt, mm2] | (((first | with_reducible apply cnd_c | with_reducible apply grd_c | with_reducible apply pck_c) <;> intro wh <;> (try rewrite [wh]) <;> try simp only [wdw] at wh) <;> (try (revert wh; intro _)) <;> try (exfalso; omega)) | refine andi ?_ | fail))
            have hnew : (ints (riseK p[i].types m (riseN p[i].types (ptsF seeds (kSum seeds p i) p[i]) m) j)).set m [V.int .i64 (max ((riseK p[i].types m (riseN p[i].types (ptsF seeds (kSum seeds p i) p[i]) m) j).getD m 0) ((riseK p[i].types m (riseN p[i].types (ptsF seeds (kSum seeds p i) p[i]) m) j).getD (tval p[i].types ((tdig p[i].types m).1.set j ((tdig p[i].types m).1.getD j 0 - 1))).toNat 0))] = ints (riseK p[i].types m (riseN p[i].types (ptsF seeds (kSum seeds p i) p[i]) m) (j + 1)) := by
              rw [ints_set, riseK_succ]
              unfold stepK
              simp only
              rw [if_neg h4]
            rw [hnew]
            refine ⟨(j + 1, upd (upd ob3 y (some (.row 1 (ints (tdig p[i].types m).1)))) x (some (.row 1 (ints (riseK p[i].types m (riseN p[i].types (ptsF seeds (kSum seeds p i) p[i]) m) (j + 1)))))), ⟨by simp only; omega, ?_, ?_, ?_⟩, by simp only; omega, rfl⟩
            · simp only
              rw [upd_ne _ _ (by omega), upd_ne _ _ (by omega)]
              exact hq1
            · simp only
              rw [upd_same]
            · simp only
              rw [upd_ne _ _ (by omega), upd_same]
        · rename_i h4
          refine ⟨(j + 1, ob3), ⟨by simp only; omega, hq1, ?_, hq3⟩, by simp only; omega, rfl⟩
          simp only
          rw [riseK_succ]
          unfold stepK
          simp only
          rw [if_pos h4]
          exact hq2
end Go.Proofs.Fathom
