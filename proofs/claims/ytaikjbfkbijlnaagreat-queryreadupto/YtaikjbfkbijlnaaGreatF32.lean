/- A part of the proof of 'Rows.QueryReadUptoSaid': for every text and every seeds (of bulk at most 1048576 together) fathomlaw19.QueryRead returns true and its arguments read afterwards as before. -/
import Derived.Test.YtaikjbfkbijlnaaGreatF31
import Derived.Test.YtaikjbfkbijlnaaGreatF18
set_option linter.unusedVariables false
set_option linter.unusedSimpArgs false
namespace Go.Proofs.Fathom
open Go Go.Proofs
attribute [local irreducible] PSpec CSpec
theorem ref03_Words : ∃ l : List ByteArray, l.length ≤ 100 ∧ PS F_fathomref03_Words [] (.sl .no 1 (strs l)) := by
  refine ⟨[⟨#[66]⟩, ⟨#[76]⟩, ⟨#[78]⟩, ⟨#[99, 97, 115, 101]⟩, ⟨#[99, 111, 110, 106]⟩, ⟨#[101, 108, 115, 101]⟩, ⟨#[102, 97, 105, 108]⟩, ⟨#[102, 97, 108, 115, 101]⟩, ⟨#[105, 102]⟩, ⟨#[105, 109]⟩, ⟨#[105, 110]⟩, ⟨#[108, 101, 116]⟩, ⟨#[110, 105, 108]⟩, ⟨#[110, 111, 116]⟩, ⟨#[111, 102]⟩, ⟨#[114, 101]⟩, ⟨#[115, 116, 114, 105, 99, 116]⟩, ⟨#[116, 104, 101, 110]⟩, ⟨#[116, 114, 117, 101]⟩], by decide, ?_⟩
  (refine pspec' mixed w_fathomref03_Words (by simp) (by first | rfl | simp [V.bd, bds, bdss]) fun _ => ?_; unfold c_fathomref03_Words r_fathomref03_Words)
  (repeat' (first | simp -implicitDefEqProofs (disch := omega) only [go_sem, ↓reduceIte] | (((first | with_reducible apply cnd_c | with_reducible apply grd_c | with_reducible apply pck_c) <;> intro wh <;> (try rewrite [wh]) <;> try simp only [wdw] at wh) <;> (try (revert wh; intro _)) <;> try (exfalso; omega)) | refine andi ?_ | fail))
  rfl
def memS (l : List ByteArray) (s : ByteArray) : Bool := l.any fun w => decide (w = s)
theorem reserved_ex (s : ByteArray) : ∃ b, PS F_fathomref03_Reserved [.str s] (.bool b) := by
  obtain ⟨l, hl, hW⟩ := ref03_Words
  refine ⟨memS l s, ?_⟩
  (refine pspec' mixed w_fathomref03_Reserved (by simp) (by first | rfl | simp [V.bd, bds, bdss]) fun _ => ?_; unfold c_fathomref03_Reserved r_fathomref03_Reserved)
  (repeat' (first | simp -implicitDefEqProofs (disch := omega) only [go_sem, ↓reduceIte] | (((first | with_reducible apply cnd_c | with_reducible apply grd_c | with_reducible apply pck_c) <;> intro wh <;> (try rewrite [wh]) <;> try simp only [wdw] at wh) <;> (try (revert wh; intro _)) <;> try (exfalso; omega)) | refine andi ?_ | ((with_reducible refine callM_id ?_); refine callM_i hW ?_) | fail))
  refine loop_rule (fun i : Nat => ⟨ofL [(0, .str s), (3, .sl .no 1 (strs l)), (4, I i)], fun _ => none, _, 18, _⟩) (fun i => l.length - i)
    (fun i => i ≤ l.length ∧ ∀ w ∈ l.take i, w ≠ s) 0 rfl ⟨Nat.zero_le _, by simp⟩ fun i hi => ?_
  obtain ⟨hi, hne⟩ := hi
  (simp -implicitDefEqProofs (disch := omega) only [go_sem, ↓reduceIte])
  ((first | with_reducible apply cnd_c | with_reducible apply grd_c | with_reducible apply pck_c) <;> intro h <;> (try rewrite [h]) <;> try simp only [wdw] at h)
  · (repeat' (first | simp -implicitDefEqProofs (disch := omega) only [go_sem, ↓reduceIte] | (((first | with_reducible apply cnd_c | with_reducible apply grd_c | with_reducible apply pck_c) <;> intro wh <;> (try rewrite [wh]) <;> try simp only [wdw] at wh) <;> (try (revert wh; intro _)) <;> try (exfalso; omega)) | refine andi ?_ | fail))
    have : l.take i = l := List.take_of_length_le (by omega)
    rw [this] at hne
    simp only [V.bool.injEq, memS]
    symm
    rw [List.any_eq_false]
    intro w hw
    simpa using hne w hw
  · have hlt : i < l.length := by omega
    (repeat' (first | simp -implicitDefEqProofs (disch := omega) only [go_sem, ↓reduceIte, getq hlt] | (((first | with_reducible apply cnd_c | with_reducible apply grd_c | with_reducible apply pck_c) <;> intro wh <;> (try rewrite [wh]) <;> try simp only [wdw] at wh) <;> (try (revert wh; intro _)) <;> try (exfalso; omega)) | refine andi ?_ | fail))
    · rename_i h2
      refine ⟨i + 1, ⟨by omega, fun w hw => ?_⟩, by omega, rfl⟩
      rw [List.take_succ_eq_append_getElem hlt] at hw
      rcases List.mem_append.1 hw with hw | hw
      · exact hne w hw
      · simp only [List.mem_singleton] at hw
        subst hw
        exact h2
    · rename_i h2
      simp only [V.bool.injEq, memS]
      symm
      rw [List.any_eq_true]
      exact ⟨_, List.getElem_mem hlt, by simpa using h2⟩
/-- How many digits a whole number has. -/
theorem b2sM_u8 {t : Tok} {z : Nat} {l : List Int} {K : V → Prop} : b2sM (.sl t z (u8s l)) K = K (.str (strOfNums l)) := by
  refine propext ⟨?_, fun h => ⟨l, rfl, h⟩⟩
  rintro ⟨bs, h1, h2⟩
  have : l = bs := by
    have := congrArg (List.map fun c : List V => match c with | [.int _ n] => n | _ => 0) h1
    simpa [u8s, List.map_map, Function.comp_def] using this
  rw [this]; exact h2
theorem b2sM_1 {t : Tok} {z : Nat} {x : Int} {K : V → Prop} : b2sM (.sl t z [[.int .u8 x]]) K = K (.str (strOfNums [x])) := b2sM_u8 (l := [x])
theorem u8s_take (l : List Int) (n : Nat) : (u8s l).take n = u8s (l.take n) := by simp [u8s, List.map_take]
theorem u8s_drop (l : List Int) (n : Nat) : (u8s l).drop n = u8s (l.drop n) := by simp [u8s, List.map_drop]
theorem digits_ex : ∀ (f : Nat) (n : Int), 0 ≤ n → n < 10 ^ (f + 1) → f ≤ 16 → ∃ s : ByteArray, s.size ≤ f + 1 ∧ PS F_fathomref01_digits [I n] (.str s)
  | f, n, h0, h1, hf => by
    have e2 : n.tmod 10 = n % 10 := Int.tmod_eq_emod_of_nonneg h0
    by_cases h10 : 10 ≤ n
    · have e1 : n.tdiv 10 = n / 10 := Int.tdiv_eq_ediv_of_nonneg h0
      obtain ⟨f, rfl⟩ : ∃ g, f = g + 1 := ⟨f - 1, by
        cases f with
        | zero => simp at h1; omega
        | succ f => omega⟩
      have hp : (10 : Int) ^ (f + 1 + 1) = 10 ^ (f + 1) * 10 := Int.pow_succ ..
      obtain ⟨s, hs, hd⟩ := digits_ex f (n / 10) (by omega) (by omega) (by omega)
      have hz := strOfNums_size [IntKind.u8.wrap (48 + n % 10)]
      simp only [List.length_cons, List.length_nil] at hz
      refine ⟨s ++ strOfNums [IntKind.u8.wrap (48 + n % 10)], by rw [ByteArray.size_append, hz]; omega, ?_⟩
      (refine pspec' mixed w_fathomref01_digits (by simp) (by first | rfl | simp [V.bd, bds, bdss]) fun _ => ?_; unfold c_fathomref01_digits r_fathomref01_digits)
      have hmax : n ≤ 1000000000000000000 := by
        have h17 : (10 : Int) ^ (f + 1 + 1) ≤ 10 ^ 17 := by exact_mod_cast Nat.pow_le_pow_right (by omega) (by omega : f + 1 + 1 ≤ 17)
        have : (10 : Int) ^ 17 = 100000000000000000 := by decide
        omega
      (repeat' (first | simp -implicitDefEqProofs (disch := omega) only [go_sem, ↓reduceIte, e1, e2, b2sM_1] | (((first | with_reducible apply cnd_c | with_reducible apply grd_c | with_reducible apply pck_c) <;> intro wh <;> (try rewrite [wh]) <;> try simp only [wdw] at wh) <;> (try (revert wh; intro _)) <;> try (exfalso; omega)) | refine andi ?_ | ((with_reducible refine callM_id ?_); refine callM_i hd ?_) | fail))
      rw [hz]
      omega
    · refine ⟨strOfNums [IntKind.u8.wrap (48 + n % 10)], by rw [strOfNums_size]; simp, ?_⟩
      (refine pspec' mixed w_fathomref01_digits (by simp) (by first | rfl | simp [V.bd, bds, bdss]) fun _ => ?_; unfold c_fathomref01_digits r_fathomref01_digits)
      (repeat' (first | simp -implicitDefEqProofs (disch := omega) only [go_sem, ↓reduceIte, e2, b2sM_1] | (((first | with_reducible apply cnd_c | with_reducible apply grd_c | with_reducible apply pck_c) <;> intro wh <;> (try rewrite [wh]) <;> try simp only [wdw] at wh) <;> (try (revert wh; intro _)) <;> try (exfalso; omega)) | refine andi ?_ | fail))
  termination_by f => f
theorem digitsS_ex (n : Int) (h0 : -100000000 ≤ n) (h1 : n ≤ 100000000) : ∃ s : ByteArray, s.size ≤ 11 ∧ PS F_fathomref01_digits [I n] (.str s) := by
  have e10 : (10 : Int) ^ (9 + 1) = 10000000000 := by decide
  by_cases hn : 0 ≤ n
  · obtain ⟨s, hs, hd⟩ := digits_ex 9 n hn (by omega) (by omega)
    exact ⟨s, by omega, hd⟩
  · obtain ⟨s, hs, hd⟩ := digits_ex 9 (-n) (by omega) (by omega) (by omega)
    have hz : (⟨#[45]⟩ : ByteArray).size = 1 := rfl
    refine ⟨⟨#[45]⟩ ++ s, by rw [ByteArray.size_append, hz]; omega, ?_⟩
    (refine pspec' mixed w_fathomref01_digits (by simp) (by first | rfl | simp [V.bd, bds, bdss]) fun _ => ?_; unfold c_fathomref01_digits r_fathomref01_digits)
    have e : 0 - n = -n := by omega
    (repeat' (first | simp -implicitDefEqProofs (disch := omega) only [go_sem, ↓reduceIte, e] | (((first | with_reducible apply cnd_c | with_reducible apply grd_c | with_reducible apply pck_c) <;> intro wh <;> (try rewrite [wh]) <;> try simp only [wdw] at wh) <;> (try (revert wh; intro _)) <;> try (exfalso; omega)) | refine andi ?_ | ((with_reducible refine callM_id ?_); refine callM_i hd ?_) | fail))
    rw [hz]
    omega
theorem text_ex (a b : Int) (ha : -100000000 ≤ a) (ha1 : a ≤ 100000000) (hb : -100000000 ≤ b) (hb1 : b ≤ 100000000) : ∃ s : ByteArray, s.size ≤ 40 ∧ PS F_fathomref01_Text [.agg [I a, I b]] (.str s) := by
  obtain ⟨x, hx, hda⟩ := digitsS_ex a ha ha1
  obtain ⟨y, hy, hdb⟩ := digitsS_ex b hb hb1
  have hz : (⟨#[43]⟩ : ByteArray).size = 1 := rfl
  have hi : (⟨#[105]⟩ : ByteArray).size = 1 := rfl
  by_cases h1 : b = 0
  · refine ⟨x, by omega, ?_⟩
    (refine pspec' mixed w_fathomref01_Text (by simp) (by first | rfl | simp [V.bd, bds, bdss]) fun _ => ?_; unfold c_fathomref01_Text r_fathomref01_Text)
    (repeat' (first | simp -implicitDefEqProofs (disch := omega) only [go_sem, ↓reduceIte] | (((first | with_reducible apply cnd_c | with_reducible apply grd_c | with_reducible apply pck_c) <;> intro wh <;> (try rewrite [wh]) <;> try simp only [wdw] at wh) <;> (try (revert wh; intro _)) <;> try (exfalso; omega)) | refine andi ?_ | ((with_reducible refine callM_id ?_); refine callM_i hda ?_) | ((with_reducible refine callM_id ?_); refine callM_i hdb ?_) | fail))
  · by_cases h2 : a = 0
    · refine ⟨y ++ ⟨#[105]⟩, by rw [ByteArray.size_append, hi]; omega, ?_⟩
      (refine pspec' mixed w_fathomref01_Text (by simp) (by first | rfl | simp [V.bd, bds, bdss]) fun _ => ?_; unfold c_fathomref01_Text r_fathomref01_Text)
      (repeat' (first | simp -implicitDefEqProofs (disch := omega) only [go_sem, ↓reduceIte] | (((first | with_reducible apply cnd_c | with_reducible apply grd_c | with_reducible apply pck_c) <;> intro wh <;> (try rewrite [wh]) <;> try simp only [wdw] at wh) <;> (try (revert wh; intro _)) <;> try (exfalso; omega)) | refine andi ?_ | ((with_reducible refine callM_id ?_); refine callM_i hda ?_) | ((with_reducible refine callM_id ?_); refine callM_i hdb ?_) | fail))
      rw [hi]; omega
    · by_cases h3 : 0 < b
      · refine ⟨x ++ ⟨#[43]⟩ ++ y ++ ⟨#[105]⟩, by simp only [ByteArray.size_append, hi, hz]; omega, ?_⟩
        (refine pspec' mixed w_fathomref01_Text (by simp) (by first | rfl | simp [V.bd, bds, bdss]) fun _ => ?_; unfold c_fathomref01_Text r_fathomref01_Text)
        (repeat' (first | simp -implicitDefEqProofs (disch := omega) only [go_sem, ↓reduceIte] | (((first | with_reducible apply cnd_c | with_reducible apply grd_c | with_reducible apply pck_c) <;> intro wh <;> (try rewrite [wh]) <;> try simp only [wdw] at wh) <;> (try (revert wh; intro _)) <;> try (exfalso; omega)) | refine andi ?_ | ((with_reducible refine callM_id ?_); refine callM_i hda ?_) | ((with_reducible refine callM_id ?_); refine callM_i hdb ?_) | fail))
        simp only [ByteArray.size_append, hi, hz]; omega
      · refine ⟨x ++ y ++ ⟨#[105]⟩, by simp only [ByteArray.size_append, hi]; omega, ?_⟩
        (refine pspec' mixed w_fathomref01_Text (by simp) (by first | rfl | simp [V.bd, bds, bdss]) fun _ => ?_; unfold c_fathomref01_Text r_fathomref01_Text)
        (repeat' (first | simp -implicitDefEqProofs (disch := omega) only [go_sem, ↓reduceIte] | (((first | with_reducible apply cnd_c | with_reducible apply grd_c | with_reducible apply pck_c) <;> intro wh <;> (try rewrite [wh]) <;> try simp only [wdw] at wh) <;> (try (revert wh; intro _)) <;> try (exfalso; omega)) | refine andi ?_ | ((with_reducible refine callM_id ?_); refine callM_i hda ?_) | ((with_reducible refine callM_id ?_); refine callM_i hdb ?_) | fail))
        simp only [ByteArray.size_append, hi]; omega
end Go.Proofs.Fathom
set_option linter.unusedVariables false
set_option linter.unusedSimpArgs false
namespace Go.Proofs.Fathom
open Go Go.Proofs
attribute [local irreducible] PSpec CSpec
def digV (s : ByteArray) (k : Nat) : Int := match s[k]? with
  | some b => (b.toNat : Int) - 48
  | none => 0
def wacc (s : ByteArray) (i : Nat) : Nat → Int
  | 0 => 0
  | j + 1 => min (10 * wacc s i j + digV s (i + j)) 16777217
def isDig (s : ByteArray) (k : Nat) : Bool := match s[k]? with
  | some b => decide (48 ≤ (b.toNat : Int)) && decide ((b.toNat : Int) ≤ 57)
  | none => false
theorem dig_end (s : ByteArray) (i : Nat) : ∃ e : Nat, (∀ j, j < e → isDig s (i + j) = true) ∧ isDig s (i + e) = false := by
  have key : ∀ (d : Nat), (∀ j, j < d → isDig s (i + j) = true) ∨ ∃ e : Nat, (∀ j, j < e → isDig s (i + j) = true) ∧ isDig s (i + e) = false := by
    intro d
    induction d with
    | zero => exact .inl fun j h => by omega
    | succ d ih =>
      rcases ih with ih | ih
      · cases h : isDig s (i + d)
        · exact .inr ⟨d, ih, h⟩
        · refine .inl fun j hj => ?_
          by_cases hjd : j = d
          · subst hjd; exact h
          · exact ih j (by omega)
      · exact .inr ih
  rcases key (s.size + 1) with h | h
  · exfalso
    have := h s.size (by omega)
    unfold isDig at this
    have hn : s[i + s.size]? = none := by simp
    rw [hn] at this
    cases this
  · exact h
theorem digV_some {s : ByteArray} {k : Nat} (h : isDig s k = true) : ∃ b, s[k]? = some b ∧ 48 ≤ (b.toNat : Int) ∧ (b.toNat : Int) ≤ 57 ∧ digV s k = (b.toNat : Int) - 48 := by
  unfold isDig at h
  split at h
  · rename_i b hb
    simp only [Bool.and_eq_true, decide_eq_true_eq] at h
    exact ⟨b, hb, h.1, h.2, by unfold digV; rw [hb]⟩
  · cases h
theorem wacc_le (s : ByteArray) (i : Nat) : ∀ j, (∀ k, k < j → isDig s (i + k) = true) → 0 ≤ wacc s i j ∧ wacc s i j ≤ 16777217
  | 0, _ => by simp [wacc]
  | j + 1, h => by
    have ih := wacc_le s i j fun k hk => h k (by omega)
    obtain ⟨b, _, h1, h2, h3⟩ := digV_some (h j (by omega))
    simp only [wacc]
    rw [h3]
    omega
theorem whole_ex (s : ByteArray) (hs : s.size ≤ 1000000000) : ∃ n k : Int, -16777217 ≤ n ∧ n ≤ 16777217 ∧ 0 ≤ k ∧ k ≤ s.size ∧ PS F_fathomref01_whole [.str s] (.tup [I n, I k]) := by
  have main : ∀ i : Nat, ((0 < s.size ∧ ∃ b, s[0]? = some b ∧ (b.toNat : Int) = 45) ∧ i = 1) ∨ (¬ (0 < s.size ∧ ∃ b, s[0]? = some b ∧ (b.toNat : Int) = 45) ∧ i = 0) → ∃ n k : Int, -16777217 ≤ n ∧ n ≤ 16777217 ∧ 0 ≤ k ∧ k ≤ s.size ∧ PS F_fathomref01_whole [.str s] (.tup [I n, I k]) := by
    intro i hi
    obtain ⟨e, he1, he2⟩ := dig_end s i
    have hw := wacc_le s i e he1
    have hes : e ≠ 0 → i + e ≤ s.size := fun h0 => by
      have := he1 (e - 1) (by omega)
      unfold isDig at this
      split at this
      · rename_i b hb
        rcases Nat.lt_or_ge (i + (e - 1)) s.size with hl | hl
        · omega
        · have hn : s[i + (e - 1)]? = none := by simpa using hl
          rw [hn] at hb
          cases hb
      · cases this
    refine ⟨if e = 0 then 0 else if i = 1 then - wacc s i e else wacc s i e, if e = 0 then 0 else i + e, by split <;> (try split) <;> omega, by split <;> (try split) <;> omega, by split <;> omega, by split <;> omega, ?_⟩
    refine pspec' mixed w_fathomref01_whole (by simp) (by simp [V.bd, bds]) fun n => ?_
    have hinit : awp Tryz.prog c_fathomref01_whole (retK r_fathomref01_whole fun _ v => v = .tup [I (if e = 0 then 0 else if i = 1 then - wacc s i e else wacc s i e), I (if e = 0 then 0 else i + e)]) ⟨ofL (argL 0 [.str s]), fun _ => none, n, 52, n⟩ := by
      unfold c_fathomref01_whole r_fathomref01_whole
      rcases hi with ⟨⟨h0, b, hb, h45⟩, hi1⟩ | ⟨hn, hi1⟩
      · (repeat' (first | simp -implicitDefEqProofs (disch := omega) only [go_sem, ↓reduceIte, hb, h45] | (((first | with_reducible apply cnd_c | with_reducible apply grd_c | with_reducible apply pck_c) <;> intro wh <;> (try rewrite [wh]) <;> try simp only [wdw] at wh) <;> (try (revert wh; intro _)) <;> try (exfalso; omega)) | refine andi ?_ | fail))
        refine loop_rule (fun j : Nat => ⟨ofL [(0, .str s), (4, I i), (5, I (wacc s i j)), (6, I (i + j))], fun _ => none, n, 52, n⟩) (fun j => e - j)
          (fun j => j ≤ e) 0 (by rw [hi1]; rfl) (Nat.zero_le _) fun j hj => ?_
        have hwj := wacc_le s i j fun k hk => he1 k (by omega)
        have ecast : ((i : Int) + (j : Int)) = ((i + j : Nat) : Int) := by omega
        by_cases hje : j = e
        · subst hje
          unfold isDig at he2
          have fin : ∀ v, (v = V.tup [I (if j = 0 then 0 else if i = 1 then - wacc s i j else wacc s i j), I (if j = 0 then 0 else i + j)]) → v = V.tup [I (if j = 0 then 0 else if i = 1 then - wacc s i j else wacc s i j), I (if j = 0 then 0 else i + j)] := fun v h => h
          rcases Nat.lt_or_ge (i + j) s.size with hl | hl
          · obtain ⟨c, hc⟩ : ∃ c, s[i + j]? = some c := ⟨s[i + j], by simp [hl]⟩
            rw [hc] at he2
            simp only [Bool.and_eq_false_iff, decide_eq_false_iff_not] at he2
            (repeat' (first | simp -implicitDefEqProofs (disch := omega) only [go_sem, ↓reduceIte, ecast, hc] | (((first | with_reducible apply cnd_c | with_reducible apply grd_c | with_reducible apply pck_c) <;> intro wh <;> (try rewrite [wh]) <;> try simp only [wdw] at wh) <;> (try (revert wh; intro _)) <;> try (exfalso; omega)) | refine andi ?_ | fail))
            all_goals first
              | (exfalso; omega)
              | (simp only [V.tup.injEq, List.cons.injEq, V.int.injEq, true_and, and_true]; constructor <;> (repeat' split) <;> omega)
          · (repeat' (first | simp -implicitDefEqProofs (disch := omega) only [go_sem, ↓reduceIte, ecast] | (((first | with_reducible apply cnd_c | with_reducible apply grd_c | with_reducible apply pck_c) <;> intro wh <;> (try rewrite [wh]) <;> try simp only [wdw] at wh) <;> (try (revert wh; intro _)) <;> try (exfalso; omega)) | refine andi ?_ | fail))
            all_goals first
              | (exfalso; omega)
              | (simp only [V.tup.injEq, List.cons.injEq, V.int.injEq, true_and, and_true]; constructor <;> (repeat' split) <;> omega)
        · obtain ⟨c, hc, hc1, hc2, hc3⟩ := digV_some (he1 j (by omega))
          have hl : i + j < s.size := by
            rcases Nat.lt_or_ge (i + j) s.size with hl | hl
            · exact hl
            · have hn2 : s[i + j]? = none := by simpa using hl
              rw [hn2] at hc
              cases hc
          have eu : IntKind.u8.wrap ((c.toNat : Int) - 48) = (c.toNat : Int) - 48 := Go.IntWalk.u8_in _ (by omega)
          (repeat' (first | simp -implicitDefEqProofs (disch := omega) only [go_sem, ↓reduceIte, ecast, hc, eu, V.isInt, mm2] | (((first | with_reducible apply cnd_c | with_reducible apply grd_c | with_reducible apply pck_c) <;> intro wh <;> (try rewrite [wh]) <;> try simp only [wdw] at wh) <;> (try (revert wh; intro _)) <;> try (exfalso; omega)) | refine andi ?_ | fail))
          all_goals first
            | (exfalso; omega)
            | (refine ⟨j + 1, by omega, by omega, ?_⟩
               simp only [wacc, hc3]
               first | rfl | (congr 1; done) | (congr 1; simp [Int.add_assoc]))
      · by_cases h0 : 0 < s.size
        · obtain ⟨b, hb⟩ : ∃ b, s[0]? = some b := ⟨s[0], by simp [h0]⟩
          have hb45 : ¬ (b.toNat : Int) = 45 := fun h => hn ⟨h0, b, hb, h⟩
          (repeat' (first | simp -implicitDefEqProofs (disch := omega) only [go_sem, ↓reduceIte, hb] | (((first | with_reducible apply cnd_c | with_reducible apply grd_c | with_reducible apply pck_c) <;> intro wh <;> (try rewrite [wh]) <;> try simp only [wdw] at wh) <;> (try (revert wh; intro _)) <;> try (exfalso; omega)) | refine andi ?_ | fail))
          refine loop_rule (fun j : Nat => ⟨ofL [(0, .str s), (4, I i), (5, I (wacc s i j)), (6, I (i + j))], fun _ => none, n, 52, n⟩) (fun j => e - j)
            (fun j => j ≤ e) 0 (by rw [hi1]; rfl) (Nat.zero_le _) fun j hj => ?_
          have hwj := wacc_le s i j fun k hk => he1 k (by omega)
          have ecast : ((i : Int) + (j : Int)) = ((i + j : Nat) : Int) := by omega
          by_cases hje : j = e
          · subst hje
            unfold isDig at he2
            have fin : ∀ v, (v = V.tup [I (if j = 0 then 0 else if i = 1 then - wacc s i j else wacc s i j), I (if j = 0 then 0 else i + j)]) → v = V.tup [I (if j = 0 then 0 else if i = 1 then - wacc s i j else wacc s i j), I (if j = 0 then 0 else i + j)] := fun v h => h
            rcases Nat.lt_or_ge (i + j) s.size with hl | hl
            · obtain ⟨c, hc⟩ : ∃ c, s[i + j]? = some c := ⟨s[i + j], by simp [hl]⟩
              rw [hc] at he2
              simp only [Bool.and_eq_false_iff, decide_eq_false_iff_not] at he2
              (repeat' (first | simp -implicitDefEqProofs (disch := omega) only [go_sem, ↓reduceIte, ecast, hc] | (((first | with_reducible apply cnd_c | with_reducible apply grd_c | with_reducible apply pck_c) <;> intro wh <;> (try rewrite [wh]) <;> try simp only [wdw] at wh) <;> (try (revert wh; intro _)) <;> try (exfalso; omega)) | refine andi ?_ | fail))
              all_goals first
                | (exfalso; omega)
                | (simp only [V.tup.injEq, List.cons.injEq, V.int.injEq, true_and, and_true]; constructor <;> (repeat' split) <;> omega)
            · (repeat' (first | simp -implicitDefEqProofs (disch := omega) only [go_sem, ↓reduceIte, ecast] | (((first | with_reducible apply cnd_c | with_reducible apply grd_c | with_reducible apply pck_c) <;> intro wh <;> (try rewrite [wh]) <;> try simp only [wdw] at wh) <;> (try (revert wh; intro _)) <;> try (exfalso; omega)) | refine andi ?_ | fail))
              all_goals first
                | (exfalso; omega)
                | (simp only [V.tup.injEq, List.cons.injEq, V.int.injEq, true_and, and_true]; constructor <;> (repeat' split) <;> omega)
          · obtain ⟨c, hc, hc1, hc2, hc3⟩ := digV_some (he1 j (by omega))
            have hl : i + j < s.size := by
              rcases Nat.lt_or_ge (i + j) s.size with hl | hl
              · exact hl
              · have hn2 : s[i + j]? = none := by simpa using hl
                rw [hn2] at hc
                cases hc
            have eu : IntKind.u8.wrap ((c.toNat : Int) - 48) = (c.toNat : Int) - 48 := Go.IntWalk.u8_in _ (by omega)
            (repeat' (first | simp -implicitDefEqProofs (disch := omega) only [go_sem, ↓reduceIte, ecast, hc, eu, V.isInt, mm2] | (((first | with_reducible apply cnd_c | with_reducible apply grd_c | with_reducible apply pck_c) <;> intro wh <;> (try rewrite [wh]) <;> try simp only [wdw] at wh) <;> (try (revert wh; intro _)) <;> try (exfalso; omega)) | refine andi ?_ | fail))
            all_goals first
              | (exfalso; omega)
              | (refine ⟨j + 1, by omega, by omega, ?_⟩
                 simp only [wacc, hc3]
                 first | rfl | (congr 1; done) | (congr 1; simp [Int.add_assoc]))
        · (repeat' (first | simp -implicitDefEqProofs (disch := omega) only [go_sem, ↓reduceIte] | (((first | with_reducible apply cnd_c | with_reducible apply grd_c | with_reducible apply pck_c) <;> intro wh <;> (try rewrite [wh]) <;> try simp only [wdw] at wh) <;> (try (revert wh; intro _)) <;> try (exfalso; omega)) | refine andi ?_ | fail))
          refine loop_rule (fun j : Nat => ⟨ofL [(0, .str s), (4, I i), (5, I (wacc s i j)), (6, I (i + j))], fun _ => none, n, 52, n⟩) (fun j => e - j)
            (fun j => j ≤ e) 0 (by rw [hi1]; rfl) (Nat.zero_le _) fun j hj => ?_
          have hwj := wacc_le s i j fun k hk => he1 k (by omega)
          have ecast : ((i : Int) + (j : Int)) = ((i + j : Nat) : Int) := by omega
          by_cases hje : j = e
          · subst hje
            unfold isDig at he2
            have fin : ∀ v, (v = V.tup [I (if j = 0 then 0 else if i = 1 then - wacc s i j else wacc s i j), I (if j = 0 then 0 else i + j)]) → v = V.tup [I (if j = 0 then 0 else if i = 1 then - wacc s i j else wacc s i j), I (if j = 0 then 0 else i + j)] := fun v h => h
            rcases Nat.lt_or_ge (i + j) s.size with hl | hl
            · obtain ⟨c, hc⟩ : ∃ c, s[i + j]? = some c := ⟨s[i + j], by simp [hl]⟩
              rw [hc] at he2
              simp only [Bool.and_eq_false_iff, decide_eq_false_iff_not] at he2
              (repeat' (first | simp -implicitDefEqProofs (disch := omega) only [go_sem, ↓reduceIte, ecast, hc] | (((first | with_reducible apply cnd_c | with_reducible apply grd_c | with_reducible apply pck_c) <;> intro wh <;> (try rewrite [wh]) <;> try simp only [wdw] at wh) <;> (try (revert wh; intro _)) <;> try (exfalso; omega)) | refine andi ?_ | fail))
              all_goals first
                | (exfalso; omega)
                | (simp only [V.tup.injEq, List.cons.injEq, V.int.injEq, true_and, and_true]; constructor <;> (repeat' split) <;> omega)
            · (repeat' (first | simp -implicitDefEqProofs (disch := omega) only [go_sem, ↓reduceIte, ecast] | (((first | with_reducible apply cnd_c | with_reducible apply grd_c | with_reducible apply pck_c) <;> intro wh <;> (try rewrite [wh]) <;> try simp only [wdw] at wh) <;> (try (revert wh; intro _)) <;> try (exfalso; omega)) | refine andi ?_ | fail))
              all_goals first
                | (exfalso; omega)
                | (simp only [V.tup.injEq, List.cons.injEq, V.int.injEq, true_and, and_true]; constructor <;> (repeat' split) <;> omega)
          · obtain ⟨c, hc, hc1, hc2, hc3⟩ := digV_some (he1 j (by omega))
            have hl : i + j < s.size := by
              rcases Nat.lt_or_ge (i + j) s.size with hl | hl
              · exact hl
              · have hn2 : s[i + j]? = none := by simpa using hl
                rw [hn2] at hc
                cases hc
            have eu : IntKind.u8.wrap ((c.toNat : Int) - 48) = (c.toNat : Int) - 48 := Go.IntWalk.u8_in _ (by omega)
            (repeat' (first | simp -implicitDefEqProofs (disch := omega) only [go_sem, ↓reduceIte, ecast, hc, eu, V.isInt, mm2] | (((first | with_reducible apply cnd_c | with_reducible apply grd_c | with_reducible apply pck_c) <;> intro wh <;> (try rewrite [wh]) <;> try simp only [wdw] at wh) <;> (try (revert wh; intro _)) <;> try (exfalso; omega)) | refine andi ?_ | fail))
            all_goals first
              | (exfalso; omega)
              | (refine ⟨j + 1, by omega, by omega, ?_⟩
                 simp only [wacc, hc3]
                 first | rfl | (congr 1; done) | (congr 1; simp [Int.add_assoc]))
    exact hinit
  by_cases h : 0 < s.size ∧ ∃ b, s[0]? = some b ∧ (b.toNat : Int) = 45
  · exact main 1 (.inl ⟨h, rfl⟩)
  · exact main 0 (.inr ⟨h, rfl⟩)
end Go.Proofs.Fathom
set_option linter.unusedVariables false
set_option linter.unusedSimpArgs false
namespace Go.Proofs.Fathom
open Go Go.Proofs
attribute [local irreducible] PSpec CSpec
theorem whole_all : ∃ W : ByteArray → Int × Int, ∀ s : ByteArray, s.size ≤ 1000000000 → -16777217 ≤ (W s).1 ∧ (W s).1 ≤ 16777217 ∧ 0 ≤ (W s).2 ∧ (W s).2 ≤ s.size ∧ PS F_fathomref01_whole [.str s] (.tup [I (W s).1, I (W s).2]) := by
  refine Classical.axiomOfChoice (r := fun s (w : Int × Int) => s.size ≤ 1000000000 → -16777217 ≤ w.1 ∧ w.1 ≤ 16777217 ∧ 0 ≤ w.2 ∧ w.2 ≤ s.size ∧ PS F_fathomref01_whole [.str s] (.tup [I w.1, I w.2])) fun s => ?_
  by_cases h : s.size ≤ 1000000000
  · obtain ⟨n, k, h1, h2, h3, h4, h5⟩ := whole_ex s h
    exact ⟨(n, k), fun _ => ⟨h1, h2, h3, h4, h5⟩⟩
  · exact ⟨(0, 0), fun h2 => absurd h2 h⟩
theorem text_all : ∃ T : Int → Int → ByteArray, ∀ a b : Int, -100000000 ≤ a → a ≤ 100000000 → -100000000 ≤ b → b ≤ 100000000 → PS F_fathomref01_Text [.agg [I a, I b]] (.str (T a b)) := by
  have : ∃ T : Int × Int → ByteArray, ∀ x : Int × Int, -100000000 ≤ x.1 → x.1 ≤ 100000000 → -100000000 ≤ x.2 → x.2 ≤ 100000000 → PS F_fathomref01_Text [.agg [I x.1, I x.2]] (.str (T x)) := by
    refine Classical.axiomOfChoice (r := fun (x : Int × Int) (t : ByteArray) => -100000000 ≤ x.1 → x.1 ≤ 100000000 → -100000000 ≤ x.2 → x.2 ≤ 100000000 → PS F_fathomref01_Text [.agg [I x.1, I x.2]] (.str t)) fun x => ?_
    by_cases h : -100000000 ≤ x.1 ∧ x.1 ≤ 100000000 ∧ -100000000 ≤ x.2 ∧ x.2 ≤ 100000000
    · obtain ⟨t, _, ht⟩ := text_ex x.1 x.2 h.1 h.2.1 h.2.2.1 h.2.2.2
      exact ⟨t, fun _ _ _ _ => ht⟩
    · exact ⟨⟨#[]⟩, fun h1 h2 h3 h4 => absurd ⟨h1, h2, h3, h4⟩ h⟩
  obtain ⟨T, hT⟩ := this
  exact ⟨fun a b => T (a, b), fun a b h1 h2 h3 h4 => hT (a, b) h1 h2 h3 h4⟩
def inN (a b : Int) : Bool := decide (-16777216 ≤ a ∧ a ≤ 16777216 ∧ -16777216 ≤ b ∧ b ≤ 16777216)
theorem ref01_in (a b : Int) : ∃ x y : Int, PS F_fathomref01_in [.agg [I a, I b]] (.tup [.agg [I x, I y], I (if inN a b then 0 else 50)]) := by
  by_cases h : -16777216 ≤ a ∧ a ≤ 16777216 ∧ -16777216 ≤ b ∧ b ≤ 16777216
  · refine ⟨a, b, ?_⟩
    rw [if_pos (by simp only [inN]; exact decide_eq_true h)]
    (refine pspec' mixed w_fathomref01_in (by simp) (by first | rfl | simp [V.bd, bds, bdss]) fun _ => ?_; unfold c_fathomref01_in r_fathomref01_in)
    (repeat' (first | simp -implicitDefEqProofs (disch := omega) only [go_sem, ↓reduceIte] | (((first | with_reducible apply cnd_c | with_reducible apply grd_c | with_reducible apply pck_c) <;> intro wh <;> (try rewrite [wh]) <;> try simp only [wdw] at wh) <;> (try (revert wh; intro _)) <;> try (exfalso; omega)) | refine andi ?_ | fail))
  · refine ⟨0, 0, ?_⟩
    rw [if_neg (by simp only [inN]; simpa using h)]
    (refine pspec' mixed w_fathomref01_in (by simp) (by first | rfl | simp [V.bd, bds, bdss]) fun _ => ?_; unfold c_fathomref01_in r_fathomref01_in)
    (repeat' (first | simp -implicitDefEqProofs (disch := omega) only [go_sem, ↓reduceIte] | (((first | with_reducible apply cnd_c | with_reducible apply grd_c | with_reducible apply pck_c) <;> intro wh <;> (try rewrite [wh]) <;> try simp only [wdw] at wh) <;> (try (revert wh; intro _)) <;> try (exfalso; omega)) | refine andi ?_ | fail))
    all_goals rfl
theorem slcsM_l {s : ByteArray} {k : IntKind} {l : Int} {K : V → Prop} : slcsM (.str s) (some (.int k l)) none K = (0 ≤ l ∧ l ≤ s.size ∧ K (.str (s.extract l.toNat s.size))) := by
  simp [slcsM, oiv]
set_option maxHeartbeats 4000000 in
theorem num_ex (s : ByteArray) (hs : s.size ≤ 1000000000) : ∃ re im e : Int, PS F_fathomref01_Parse [.str s] (.tup [.agg [I re, I im], I e]) := by
  obtain ⟨W, hW⟩ := whole_all
  obtain ⟨T, hT⟩ := text_all
  obtain ⟨w1, w2, w3, w4, w5⟩ := hW s hs
  by_cases hk : (W s).2 = 0
  · refine ⟨0, 0, 10, ?_⟩
    (refine pspec' mixed w_fathomref01_Parse (by simp) (by first | rfl | simp [V.bd, bds, bdss]) fun _ => ?_; unfold c_fathomref01_Parse r_fathomref01_Parse)
    (repeat' (first | simp -implicitDefEqProofs (disch := omega) only [go_sem, ↓reduceIte] | (((first | with_reducible apply cnd_c | with_reducible apply grd_c | with_reducible apply pck_c) <;> intro wh <;> (try rewrite [wh]) <;> try simp only [wdw] at wh) <;> (try (revert wh; intro _)) <;> try (exfalso; omega)) | refine andi ?_ | ((with_reducible refine callM_id ?_); refine callM_i w5 ?_) | fail))
  · have hz : (s.extract (W s).2.toNat s.size).size = s.size - (W s).2.toNat := by rw [ByteArray.size_extract]; omega
    have key : ∀ re im : Int, -16777217 ≤ re → re ≤ 16777217 → -16777217 ≤ im → im ≤ 16777217 → ∃ x y : Int, PS F_fathomref01_in [.agg [I re, I im]] (.tup [.agg [I x, I y], I (if inN re im then 0 else 50)]) ∧ PS F_fathomref01_Text [.agg [I re, I im]] (.str (T re im)) := fun re im h1 h2 h3 h4 => by
      obtain ⟨x, y, h⟩ := ref01_in re im
      exact ⟨x, y, h, hT re im (by omega) (by omega) (by omega) (by omega)⟩
    by_cases hr1 : s.extract (W s).2.toNat s.size = ⟨#[105]⟩
    · have hr3 : True := trivial
      obtain ⟨x, y, k1, k2⟩ := key (0) ((W s).1) (by omega) (by omega) (by omega) (by omega)
      by_cases hin : inN (0) ((W s).1) = true
      · rw [if_pos hin] at k1
        by_cases ht : T (0) ((W s).1) = s
        · refine ⟨0, (W s).1, 0, ?_⟩
          (refine pspec' mixed w_fathomref01_Parse (by simp) (by first | rfl | simp [V.bd, bds, bdss]) fun _ => ?_; unfold c_fathomref01_Parse r_fathomref01_Parse)
          (repeat' (first | simp -implicitDefEqProofs (disch := omega) only [go_sem, ↓reduceIte, slcsM_l, hr1] | (((first | with_reducible apply cnd_c | with_reducible apply grd_c | with_reducible apply pck_c) <;> intro wh <;> (try rewrite [wh]) <;> try simp only [wdw] at wh) <;> (try (revert wh; intro _)) <;> try (exfalso; omega)) | refine andi ?_ | ((with_reducible refine callM_id ?_); refine callM_i w5 ?_) | ((with_reducible refine callM_id ?_); refine callM_i k1 ?_) | ((with_reducible refine callM_id ?_); refine callM_i k2 ?_) | fail))
          all_goals first | rfl | (exfalso; simp_all; done) | (exfalso; omega)
        · refine ⟨0, 0, 10, ?_⟩
          (refine pspec' mixed w_fathomref01_Parse (by simp) (by first | rfl | simp [V.bd, bds, bdss]) fun _ => ?_; unfold c_fathomref01_Parse r_fathomref01_Parse)
          (repeat' (first | simp -implicitDefEqProofs (disch := omega) only [go_sem, ↓reduceIte, slcsM_l, hr1] | (((first | with_reducible apply cnd_c | with_reducible apply grd_c | with_reducible apply pck_c) <;> intro wh <;> (try rewrite [wh]) <;> try simp only [wdw] at wh) <;> (try (revert wh; intro _)) <;> try (exfalso; omega)) | refine andi ?_ | ((with_reducible refine callM_id ?_); refine callM_i w5 ?_) | ((with_reducible refine callM_id ?_); refine callM_i k1 ?_) | ((with_reducible refine callM_id ?_); refine callM_i k2 ?_) | fail))
          all_goals first | rfl | (exfalso; simp_all; done) | (exfalso; omega)
      · rw [if_neg hin] at k1
        refine ⟨0, 0, 10, ?_⟩
        (refine pspec' mixed w_fathomref01_Parse (by simp) (by first | rfl | simp [V.bd, bds, bdss]) fun _ => ?_; unfold c_fathomref01_Parse r_fathomref01_Parse)
        (repeat' (first | simp -implicitDefEqProofs (disch := omega) only [go_sem, ↓reduceIte, slcsM_l, hr1] | (((first | with_reducible apply cnd_c | with_reducible apply grd_c | with_reducible apply pck_c) <;> intro wh <;> (try rewrite [wh]) <;> try simp only [wdw] at wh) <;> (try (revert wh; intro _)) <;> try (exfalso; omega)) | refine andi ?_ | ((with_reducible refine callM_id ?_); refine callM_i w5 ?_) | ((with_reducible refine callM_id ?_); refine callM_i k1 ?_) | ((with_reducible refine callM_id ?_); refine callM_i k2 ?_) | fail))
        all_goals first | rfl | (exfalso; simp_all; done) | (exfalso; omega)
    · by_cases hr2 : s.extract (W s).2.toNat s.size = ⟨#[]⟩
      · have hr3 : (⟨#[]⟩ : ByteArray) ≠ ⟨#[105]⟩ := by decide
        obtain ⟨x, y, k1, k2⟩ := key ((W s).1) (0) (by omega) (by omega) (by omega) (by omega)
        by_cases hin : inN ((W s).1) (0) = true
        · rw [if_pos hin] at k1
          by_cases ht : T ((W s).1) (0) = s
          · refine ⟨(W s).1, 0, 0, ?_⟩
            (refine pspec' mixed w_fathomref01_Parse (by simp) (by first | rfl | simp [V.bd, bds, bdss]) fun _ => ?_; unfold c_fathomref01_Parse r_fathomref01_Parse)
            (repeat' (first | simp -implicitDefEqProofs (disch := omega) only [go_sem, ↓reduceIte, slcsM_l, hr1, hr2] | (((first | with_reducible apply cnd_c | with_reducible apply grd_c | with_reducible apply pck_c) <;> intro wh <;> (try rewrite [wh]) <;> try simp only [wdw] at wh) <;> (try (revert wh; intro _)) <;> try (exfalso; omega)) | refine andi ?_ | ((with_reducible refine callM_id ?_); refine callM_i w5 ?_) | ((with_reducible refine callM_id ?_); refine callM_i k1 ?_) | ((with_reducible refine callM_id ?_); refine callM_i k2 ?_) | fail))
            all_goals first | rfl | (exfalso; simp_all; done) | (exfalso; omega)
          · refine ⟨0, 0, 10, ?_⟩
            (refine pspec' mixed w_fathomref01_Parse (by simp) (by first | rfl | simp [V.bd, bds, bdss]) fun _ => ?_; unfold c_fathomref01_Parse r_fathomref01_Parse)
            (repeat' (first | simp -implicitDefEqProofs (disch := omega) only [go_sem, ↓reduceIte, slcsM_l, hr1, hr2] | (((first | with_reducible apply cnd_c | with_reducible apply grd_c | with_reducible apply pck_c) <;> intro wh <;> (try rewrite [wh]) <;> try simp only [wdw] at wh) <;> (try (revert wh; intro _)) <;> try (exfalso; omega)) | refine andi ?_ | ((with_reducible refine callM_id ?_); refine callM_i w5 ?_) | ((with_reducible refine callM_id ?_); refine callM_i k1 ?_) | ((with_reducible refine callM_id ?_); refine callM_i k2 ?_) | fail))
            all_goals first | rfl | (exfalso; simp_all; done) | (exfalso; omega)
        · rw [if_neg hin] at k1
          refine ⟨0, 0, 10, ?_⟩
          (refine pspec' mixed w_fathomref01_Parse (by simp) (by first | rfl | simp [V.bd, bds, bdss]) fun _ => ?_; unfold c_fathomref01_Parse r_fathomref01_Parse)
          (repeat' (first | simp -implicitDefEqProofs (disch := omega) only [go_sem, ↓reduceIte, slcsM_l, hr1, hr2] | (((first | with_reducible apply cnd_c | with_reducible apply grd_c | with_reducible apply pck_c) <;> intro wh <;> (try rewrite [wh]) <;> try simp only [wdw] at wh) <;> (try (revert wh; intro _)) <;> try (exfalso; omega)) | refine andi ?_ | ((with_reducible refine callM_id ?_); refine callM_i w5 ?_) | ((with_reducible refine callM_id ?_); refine callM_i k1 ?_) | ((with_reducible refine callM_id ?_); refine callM_i k2 ?_) | fail))
          all_goals first | rfl | (exfalso; simp_all; done) | (exfalso; omega)
      · generalize hR : s.extract (W s).2.toNat s.size = R at *
        have hR0 : 0 < R.size := by
          rcases Nat.eq_zero_or_pos R.size with h | h
          · exact absurd (ByteArray.ext (Array.eq_empty_of_size_eq_zero h)) hr2
          · exact h
        obtain ⟨b, hb⟩ : ∃ b, R[0]? = some b := ⟨R[0], by simp [hR0]⟩
        by_cases h43 : (b.toNat : Int) = 43
        · have hz2 : (R.extract 1 R.size).size = R.size - 1 := by rw [ByteArray.size_extract]; omega
          obtain ⟨u1, u2, u3, u4, u5⟩ := hW (R.extract 1 R.size) (by omega)
          obtain ⟨x, y, k1, k2⟩ := key ((W s).1) ((W (R.extract 1 R.size)).1) (by omega) (by omega) (by omega) (by omega)
          by_cases hin : inN ((W s).1) ((W (R.extract 1 R.size)).1) = true
          · rw [if_pos hin] at k1
            by_cases ht : T ((W s).1) ((W (R.extract 1 R.size)).1) = s
            · refine ⟨(W s).1, (W (R.extract 1 R.size)).1, 0, ?_⟩
              (refine pspec' mixed w_fathomref01_Parse (by simp) (by first | rfl | simp [V.bd, bds, bdss]) fun _ => ?_; unfold c_fathomref01_Parse r_fathomref01_Parse)
              (repeat' (first | simp -implicitDefEqProofs (disch := omega) only [go_sem, ↓reduceIte, slcsM_l, hr1, hr2, hR, hb, h43] | (((first | with_reducible apply cnd_c | with_reducible apply grd_c | with_reducible apply pck_c) <;> intro wh <;> (try rewrite [wh]) <;> try simp only [wdw] at wh) <;> (try (revert wh; intro _)) <;> try (exfalso; omega)) | refine andi ?_ | ((with_reducible refine callM_id ?_); refine callM_i w5 ?_) | ((with_reducible refine callM_id ?_); refine callM_i k1 ?_) | ((with_reducible refine callM_id ?_); refine callM_i k2 ?_) | ((with_reducible refine callM_id ?_); refine callM_i u5 ?_) | fail))
              all_goals first | rfl | (exfalso; simp_all; done) | (exfalso; omega)
            · refine ⟨0, 0, 10, ?_⟩
              (refine pspec' mixed w_fathomref01_Parse (by simp) (by first | rfl | simp [V.bd, bds, bdss]) fun _ => ?_; unfold c_fathomref01_Parse r_fathomref01_Parse)
              (repeat' (first | simp -implicitDefEqProofs (disch := omega) only [go_sem, ↓reduceIte, slcsM_l, hr1, hr2, hR, hb, h43] | (((first | with_reducible apply cnd_c | with_reducible apply grd_c | with_reducible apply pck_c) <;> intro wh <;> (try rewrite [wh]) <;> try simp only [wdw] at wh) <;> (try (revert wh; intro _)) <;> try (exfalso; omega)) | refine andi ?_ | ((with_reducible refine callM_id ?_); refine callM_i w5 ?_) | ((with_reducible refine callM_id ?_); refine callM_i k1 ?_) | ((with_reducible refine callM_id ?_); refine callM_i k2 ?_) | ((with_reducible refine callM_id ?_); refine callM_i u5 ?_) | fail))
              all_goals first | rfl | (exfalso; simp_all; done) | (exfalso; omega)
          · rw [if_neg hin] at k1
            refine ⟨0, 0, 10, ?_⟩
            (refine pspec' mixed w_fathomref01_Parse (by simp) (by first | rfl | simp [V.bd, bds, bdss]) fun _ => ?_; unfold c_fathomref01_Parse r_fathomref01_Parse)
            (repeat' (first | simp -implicitDefEqProofs (disch := omega) only [go_sem, ↓reduceIte, slcsM_l, hr1, hr2, hR, hb, h43] | (((first | with_reducible apply cnd_c | with_reducible apply grd_c | with_reducible apply pck_c) <;> intro wh <;> (try rewrite [wh]) <;> try simp only [wdw] at wh) <;> (try (revert wh; intro _)) <;> try (exfalso; omega)) | refine andi ?_ | ((with_reducible refine callM_id ?_); refine callM_i w5 ?_) | ((with_reducible refine callM_id ?_); refine callM_i k1 ?_) | ((with_reducible refine callM_id ?_); refine callM_i k2 ?_) | ((with_reducible refine callM_id ?_); refine callM_i u5 ?_) | fail))
            all_goals first | rfl | (exfalso; simp_all; done) | (exfalso; omega)
        · obtain ⟨u1, u2, u3, u4, u5⟩ := hW R (by omega)
          obtain ⟨x, y, k1, k2⟩ := key ((W s).1) ((W R).1) (by omega) (by omega) (by omega) (by omega)
          by_cases hin : inN ((W s).1) ((W R).1) = true
          · rw [if_pos hin] at k1
            by_cases ht : T ((W s).1) ((W R).1) = s
            · refine ⟨(W s).1, (W R).1, 0, ?_⟩
              (refine pspec' mixed w_fathomref01_Parse (by simp) (by first | rfl | simp [V.bd, bds, bdss]) fun _ => ?_; unfold c_fathomref01_Parse r_fathomref01_Parse)
              (repeat' (first | simp -implicitDefEqProofs (disch := omega) only [go_sem, ↓reduceIte, slcsM_l, hr1, hr2, hR, hb, h43] | (((first | with_reducible apply cnd_c | with_reducible apply grd_c | with_reducible apply pck_c) <;> intro wh <;> (try rewrite [wh]) <;> try simp only [wdw] at wh) <;> (try (revert wh; intro _)) <;> try (exfalso; omega)) | refine andi ?_ | ((with_reducible refine callM_id ?_); refine callM_i w5 ?_) | ((with_reducible refine callM_id ?_); refine callM_i k1 ?_) | ((with_reducible refine callM_id ?_); refine callM_i k2 ?_) | ((with_reducible refine callM_id ?_); refine callM_i u5 ?_) | fail))
              all_goals first | rfl | (exfalso; simp_all; done) | (exfalso; omega)
            · refine ⟨0, 0, 10, ?_⟩
              (refine pspec' mixed w_fathomref01_Parse (by simp) (by first | rfl | simp [V.bd, bds, bdss]) fun _ => ?_; unfold c_fathomref01_Parse r_fathomref01_Parse)
              (repeat' (first | simp -implicitDefEqProofs (disch := omega) only [go_sem, ↓reduceIte, slcsM_l, hr1, hr2, hR, hb, h43] | (((first | with_reducible apply cnd_c | with_reducible apply grd_c | with_reducible apply pck_c) <;> intro wh <;> (try rewrite [wh]) <;> try simp only [wdw] at wh) <;> (try (revert wh; intro _)) <;> try (exfalso; omega)) | refine andi ?_ | ((with_reducible refine callM_id ?_); refine callM_i w5 ?_) | ((with_reducible refine callM_id ?_); refine callM_i k1 ?_) | ((with_reducible refine callM_id ?_); refine callM_i k2 ?_) | ((with_reducible refine callM_id ?_); refine callM_i u5 ?_) | fail))
              all_goals first | rfl | (exfalso; simp_all; done) | (exfalso; omega)
          · rw [if_neg hin] at k1
            refine ⟨0, 0, 10, ?_⟩
            (refine pspec' mixed w_fathomref01_Parse (by simp) (by first | rfl | simp [V.bd, bds, bdss]) fun _ => ?_; unfold c_fathomref01_Parse r_fathomref01_Parse)
            (repeat' (first | simp -implicitDefEqProofs (disch := omega) only [go_sem, ↓reduceIte, slcsM_l, hr1, hr2, hR, hb, h43] | (((first | with_reducible apply cnd_c | with_reducible apply grd_c | with_reducible apply pck_c) <;> intro wh <;> (try rewrite [wh]) <;> try simp only [wdw] at wh) <;> (try (revert wh; intro _)) <;> try (exfalso; omega)) | refine andi ?_ | ((with_reducible refine callM_id ?_); refine callM_i w5 ?_) | ((with_reducible refine callM_id ?_); refine callM_i k1 ?_) | ((with_reducible refine callM_id ?_); refine callM_i k2 ?_) | ((with_reducible refine callM_id ?_); refine callM_i u5 ?_) | fail))
            all_goals first | rfl | (exfalso; simp_all; done) | (exfalso; omega)
end Go.Proofs.Fathom
