/- A part of the proof of 'Rows.QueryReadUptoSaid': for every text and every seeds (of bulk at most 1048576 together) fathomlaw19.QueryRead returns true and its arguments read afterwards as before. -/
import Derived.Test.YtaikjbfkbijlnaaGreatF32
set_option linter.unusedVariables false
set_option linter.unusedSimpArgs false
namespace Go.Proofs.Fathom
open Go Go.Proofs
attribute [local irreducible] PSpec CSpec
structure Mk where
  kind : Int
  text : ByteArray
  re : Nat
  im : Nat
  at_ : Int
def Mk.c (m : Mk) : List V := [.int .i64 m.kind, .str m.text, .cpx m.re m.im, .int .i64 m.at_]
theorem num_Z (a b : Int) : PS F_fathomref01_Num_Z [.agg [I a, I b]] (.cpx (FloatKind.f64.nearest a) (FloatKind.f64.nearest b)) := by
  (refine pspec' mixed w_fathomref01_Num_Z (by simp) (by first | rfl | simp [V.bd, bds, bdss]) fun _ => ?_; unfold c_fathomref01_Num_Z r_fathomref01_Num_Z)
  (repeat' (first | simp -implicitDefEqProofs (disch := omega) only [go_sem, ↓reduceIte] | (((first | with_reducible apply cnd_c | with_reducible apply grd_c | with_reducible apply pck_c) <;> intro wh <;> (try rewrite [wh]) <;> try simp only [wdw] at wh) <;> (try (revert wh; intro _)) <;> try (exfalso; omega)) | refine andi ?_ | fail))
  omega
def cutS (T : List Int) (at_ n : Nat) : ByteArray := strOfNums ((T.take (at_ + n)).drop at_)
theorem cutS_size (T : List Int) (at_ n : Nat) (h : at_ + n ≤ T.length) : (cutS T at_ n).size = n := by
  unfold cutS
  rw [strOfNums_size, List.length_drop, List.length_take]
  omega
theorem signN_bd (c : Int) (d : Option Int) : 0 ≤ signN c d ∧ signN c d ≤ 2 ∧ (signN c d = 2 → d ≠ none) := by
  unfold signN
  split
  · rename_i h
    refine ⟨by omega, by omega, fun _ => ?_⟩
    rcases h with ⟨_, h⟩ | ⟨_, h⟩ <;> rw [h] <;> simp
  · split
    · exact ⟨by omega, by omega, fun h => by omega⟩
    · exact ⟨by omega, by omega, fun h => by omega⟩
set_option maxHeartbeats 4000000 in
theorem one_ex (k : Tok) (T : List Int) (at_ : Nat) (hT : T.length ≤ 100000000) (ha : at_ < T.length) : ∃ (m : Mk) (ok : Bool), PS F_fathomref03_one [.sl k 1 (u8s T), I at_] (.tup [.agg m.c, .bool ok]) ∧ m.at_ = at_ ∧
    (ok = true → 0 < m.text.size ∧ at_ + m.text.size ≤ T.length ∧ 0 ≤ m.kind ∧ m.kind ≤ 3) := by
  have hrun := ref03_run k T at_ (by omega) (by omega)
  have hn := runN_le (T.drop at_)
  rw [List.length_drop] at hn
  generalize hN : runN (T.drop at_) = n at *
  have hcs := cutS_size T at_ n (by omega)
  have e1 : ((at_ : Int) + (n : Int)) = ((at_ + n : Nat) : Int) := by omega
  have hcut : ∀ n, strOfNums ((T.take (at_ + n)).drop at_) = cutS T at_ n := fun n => rfl
  by_cases hn0 : n = 0
  · have hsg := ref03_sign k T at_ (by omega) ha
    have hsb := signN_bd T[at_] T[at_ + 1]?
    generalize signN T[at_] T[at_ + 1]? = sn at *
    obtain ⟨q, rfl⟩ := Int.eq_ofNat_of_zero_le hsb.1
    have hq : at_ + q ≤ T.length := by
      by_cases h2 : q = 2
      · have := hsb.2.2 (by omega)
        rcases Nat.lt_or_ge (at_ + 1) T.length with h | h
        · omega
        · exact absurd (List.getElem?_eq_none h) this
      · omega
    have hcq := cutS_size T at_ q hq
    have e2 : ((at_ : Int) + (q : Int)) = ((at_ + q : Nat) : Int) := by omega
    refine ⟨⟨3, cutS T at_ q, 0, 0, at_⟩, decide (0 < (q : Int)), ?_, rfl, fun hok => ⟨by simp only [hcq]; simpa using hok, by simp only [hcq]; omega, by simp, by simp⟩⟩
    (refine pspec' mixed w_fathomref03_one (by simp) (by first | rfl | simp [V.bd, bds, bdss]) fun _ => ?_; unfold c_fathomref03_one r_fathomref03_one)
    subst hn0
    (repeat' (first | simp -implicitDefEqProofs (disch := omega) only [go_sem, ↓reduceIte, e1, e2, u8s_take, u8s_drop, b2sM_u8, hcut, getq ha] | (((first | with_reducible apply cnd_c | with_reducible apply grd_c | with_reducible apply pck_c) <;> intro wh <;> (try rewrite [wh]) <;> try simp only [wdw] at wh) <;> (try (revert wh; intro _)) <;> try (exfalso; omega)) | refine andi ?_ | ((with_reducible refine callM_id ?_); refine callM_i hrun ?_) | ((with_reducible refine callM_id ?_); refine callM_i hsg ?_) | fail))
    all_goals rfl
  · by_cases hd : digitB T[at_] = true
    · obtain ⟨re, im, e, hnum⟩ := num_ex (cutS T at_ n) (by omega)
      refine ⟨⟨2, cutS T at_ n, FloatKind.f64.nearest re, FloatKind.f64.nearest im, at_⟩, decide (e = 0), ?_, rfl, fun hok => ⟨by simp only [hcs]; omega, by simp only [hcs]; omega, by simp, by simp⟩⟩
      (refine pspec' mixed w_fathomref03_one (by simp) (by first | rfl | simp [V.bd, bds, bdss]) fun _ => ?_; unfold c_fathomref03_one r_fathomref03_one)
      have hdg := ref03_digit T[at_]
      rw [hd] at hdg
      (repeat' (first | simp -implicitDefEqProofs (disch := omega) only [go_sem, ↓reduceIte, e1, u8s_take, u8s_drop, b2sM_u8, hcut, getq ha] | (((first | with_reducible apply cnd_c | with_reducible apply grd_c | with_reducible apply pck_c) <;> intro wh <;> (try rewrite [wh]) <;> try simp only [wdw] at wh) <;> (try (revert wh; intro _)) <;> try (exfalso; omega)) | refine andi ?_ | ((with_reducible refine callM_id ?_); refine callM_i hrun ?_) | ((with_reducible refine callM_id ?_); refine callM_i hdg ?_) | ((with_reducible refine callM_id ?_); refine callM_i hnum ?_) | ((with_reducible refine callM_id ?_); refine callM_i (num_Z _ _) ?_) | fail))
      all_goals rfl
    · have hdg := ref03_digit T[at_]
      rw [show digitB T[at_] = false by simpa using hd] at hdg
      by_cases h95 : T[at_] = 95
      · refine ⟨⟨0, cutS T at_ n, 0, 0, at_⟩, false, ?_, rfl, fun hok => by cases hok⟩
        (refine pspec' mixed w_fathomref03_one (by simp) (by first | rfl | simp [V.bd, bds, bdss]) fun _ => ?_; unfold c_fathomref03_one r_fathomref03_one)
        (repeat' (first | simp -implicitDefEqProofs (disch := omega) only [go_sem, ↓reduceIte, e1, u8s_take, u8s_drop, b2sM_u8, hcut, getq ha] | (((first | with_reducible apply cnd_c | with_reducible apply grd_c | with_reducible apply pck_c) <;> intro wh <;> (try rewrite [wh]) <;> try simp only [wdw] at wh) <;> (try (revert wh; intro _)) <;> try (exfalso; omega)) | refine andi ?_ | ((with_reducible refine callM_id ?_); refine callM_i hrun ?_) | ((with_reducible refine callM_id ?_); refine callM_i hdg ?_) | fail))
        all_goals rfl
      · obtain ⟨b, hres⟩ := reserved_ex (cutS T at_ n)
        cases b
        · refine ⟨⟨0, cutS T at_ n, 0, 0, at_⟩, true, ?_, rfl, fun hok => ⟨by simp only [hcs]; omega, by simp only [hcs]; omega, by simp, by simp⟩⟩
          (refine pspec' mixed w_fathomref03_one (by simp) (by first | rfl | simp [V.bd, bds, bdss]) fun _ => ?_; unfold c_fathomref03_one r_fathomref03_one)
          (repeat' (first | simp -implicitDefEqProofs (disch := omega) only [go_sem, ↓reduceIte, e1, u8s_take, u8s_drop, b2sM_u8, hcut, getq ha] | (((first | with_reducible apply cnd_c | with_reducible apply grd_c | with_reducible apply pck_c) <;> intro wh <;> (try rewrite [wh]) <;> try simp only [wdw] at wh) <;> (try (revert wh; intro _)) <;> try (exfalso; omega)) | refine andi ?_ | ((with_reducible refine callM_id ?_); refine callM_i hrun ?_) | ((with_reducible refine callM_id ?_); refine callM_i hdg ?_) | ((with_reducible refine callM_id ?_); refine callM_i hres ?_) | fail))
          all_goals rfl
        · refine ⟨⟨1, cutS T at_ n, 0, 0, at_⟩, true, ?_, rfl, fun hok => ⟨by simp only [hcs]; omega, by simp only [hcs]; omega, by simp, by simp⟩⟩
          (refine pspec' mixed w_fathomref03_one (by simp) (by first | rfl | simp [V.bd, bds, bdss]) fun _ => ?_; unfold c_fathomref03_one r_fathomref03_one)
          (repeat' (first | simp -implicitDefEqProofs (disch := omega) only [go_sem, ↓reduceIte, e1, u8s_take, u8s_drop, b2sM_u8, hcut, getq ha] | (((first | with_reducible apply cnd_c | with_reducible apply grd_c | with_reducible apply pck_c) <;> intro wh <;> (try rewrite [wh]) <;> try simp only [wdw] at wh) <;> (try (revert wh; intro _)) <;> try (exfalso; omega)) | refine andi ?_ | ((with_reducible refine callM_id ?_); refine callM_i hrun ?_) | ((with_reducible refine callM_id ?_); refine callM_i hdg ?_) | ((with_reducible refine callM_id ?_); refine callM_i hres ?_) | fail))
          all_goals rfl
end Go.Proofs.Fathom
set_option linter.unusedVariables false
set_option linter.unusedSimpArgs false
namespace Go.Proofs.Fathom
open Go Go.Proofs
attribute [local irreducible] PSpec CSpec
def skipN : List Int → Nat
  | [] => 0
  | c :: r => if c = 10 then 0 else skipN r + 1
theorem skipN_le : ∀ l, skipN l ≤ l.length
  | [] => Nat.le_refl _
  | c :: r => by
    have := skipN_le r
    simp only [skipN]
    split <;> simp <;> omega
theorem skipN_drop : ∀ (l : List Int) (j : Nat), j ≤ skipN l → (j = skipN l ↔ ¬ (∃ c, l[j]? = some c ∧ c ≠ 10))
  | [], j, h => by simp only [skipN] at h ⊢; simp; omega
  | c :: r, 0, h => by
    simp only [skipN]
    split
    · rename_i hc; simp [hc]
    · rename_i hc; simp [hc]
  | c :: r, j + 1, h => by
    simp only [skipN] at h ⊢
    split at h
    · omega
    · rename_i hc
      rw [if_neg hc]
      have := skipN_drop r j (by omega)
      simp only [List.getElem?_cons_succ]
      rw [← this]
      omega
def endM (T : List Int) : Mk := ⟨4, ⟨#[]⟩, 0, 0, T.length⟩
def marksF (O : Nat → Mk × Bool) (T : List Int) : Nat → Nat → List Mk → List Mk × Int
  | 0, _, out => ([], 0)
  | f + 1, a, out => match T[a]? with
    | none => (out ++ [endM T], -1)
    | some c => if blankB c = true then marksF O T f (a + 1) out else if c = 35 then marksF O T f (a + skipN (T.drop a)) out else
        if (O a).2 = true then marksF O T f (a + (O a).1.text.size) (out ++ [(O a).1]) else ([], a)
structure OneOk (k : Tok) (T : List Int) (O : Nat → Mk × Bool) : Prop where
  one : ∀ a, a < T.length → PS F_fathomref03_one [.sl k 1 (u8s T), I a] (.tup [.agg (O a).1.c, .bool (O a).2])
  ok : ∀ a, a < T.length → (O a).1.at_ = a ∧ ((O a).2 = true → 0 < (O a).1.text.size ∧ a + (O a).1.text.size ≤ T.length ∧ 0 ≤ (O a).1.kind ∧ (O a).1.kind ≤ 3)
theorem one_all (k : Tok) (T : List Int) (hT : T.length ≤ 100000000) : ∃ O, OneOk k T O := by
  have : ∃ O : Nat → Mk × Bool, ∀ a, a < T.length → PS F_fathomref03_one [.sl k 1 (u8s T), I a] (.tup [.agg (O a).1.c, .bool (O a).2]) ∧ (O a).1.at_ = a ∧ ((O a).2 = true → 0 < (O a).1.text.size ∧ a + (O a).1.text.size ≤ T.length ∧ 0 ≤ (O a).1.kind ∧ (O a).1.kind ≤ 3) := by
    refine Classical.axiomOfChoice (r := fun a (o : Mk × Bool) => a < T.length → PS F_fathomref03_one [.sl k 1 (u8s T), I a] (.tup [.agg o.1.c, .bool o.2]) ∧ o.1.at_ = a ∧ (o.2 = true → 0 < o.1.text.size ∧ a + o.1.text.size ≤ T.length ∧ 0 ≤ o.1.kind ∧ o.1.kind ≤ 3)) fun a => ?_
    by_cases h : a < T.length
    · obtain ⟨m, ok, h1, h2, h3⟩ := one_ex k T a hT h
      exact ⟨(m, ok), fun _ => ⟨h1, h2, h3⟩⟩
    · exact ⟨(endM T, false), fun h2 => absurd h2 h⟩
  obtain ⟨O, hO⟩ := this
  exact ⟨O, fun a h => (hO a h).1, fun a h => (hO a h).2⟩
theorem marksF_ok {k : Tok} {T : List Int} {O : Nat → Mk × Bool} (h : OneOk k T O) : ∀ (f a : Nat) (out : List Mk), T.length < a + f → a ≤ T.length → out.length ≤ a → (∀ m ∈ out, 0 ≤ m.kind ∧ m.kind ≤ 3) →
    ((marksF O T f a out).2 = -1 → ∃ l, (marksF O T f a out).1 = l ++ [endM T] ∧ l.length ≤ T.length ∧ ∀ m ∈ l, 0 ≤ m.kind ∧ m.kind ≤ 3) ∧ ((marksF O T f a out).2 ≠ -1 → (marksF O T f a out).1 = [] ∧ 0 ≤ (marksF O T f a out).2)
  | 0, a, out, hf, ha, hl, hk => by omega
  | f + 1, a, out, hf, ha, hl, hk => by
    simp only [marksF]
    split
    · exact ⟨fun _ => ⟨out, rfl, by omega, hk⟩, fun hx => absurd rfl hx⟩
    · rename_i c hc
      have hlt : a < T.length := by
        rcases Nat.lt_or_ge a T.length with h | h
        · exact h
        · rw [List.getElem?_eq_none h] at hc; cases hc
      split
      · exact marksF_ok h f (a + 1) out (by omega) (by omega) (by omega) hk
      · split
        · rename_i h35
          have hs := skipN_le (T.drop a)
          rw [List.length_drop] at hs
          have hpos : 0 < skipN (T.drop a) := by
            rw [List.drop_eq_getElem_cons hlt]
            have : T[a] = c := by rw [getq hlt] at hc; simpa using hc
            simp only [skipN, this, h35]
            simp
          exact marksF_ok h f _ out (by omega) (by omega) (by omega) hk
        · split
          · rename_i hok
            obtain ⟨h1, h2⟩ := h.ok a hlt
            obtain ⟨h3, h4, h5, h6⟩ := h2 hok
            refine marksF_ok h f _ _ (by omega) (by omega) (by simp; omega) fun m hm => ?_
            rcases List.mem_append.1 hm with hm | hm
            · exact hk m hm
            · simp only [List.mem_singleton] at hm
              subst hm
              exact ⟨h5, h6⟩
          · exact ⟨fun hx => by simp only at hx; omega, fun _ => ⟨rfl, by simp only; omega⟩⟩
def marksV (l : List Mk) : List (List V) := l.map Mk.c
end Go.Proofs.Fathom
set_option linter.unusedVariables false
set_option linter.unusedSimpArgs false
namespace Go.Proofs.Fathom
open Go Go.Proofs
attribute [local irreducible] PSpec CSpec
theorem Mk.bd (n : Nat) (m : Mk) : bds n m.c = true := rfl
theorem marksV_len (l : List Mk) : (marksV l).length = l.length := List.length_map _
set_option maxHeartbeats 4000000 in
theorem marks_spec (k : Tok) (T : List Int) (hT : T.length ≤ 100000000) (O : Nat → Mk × Bool) (hO : OneOk k T O) :
    PS F_fathomref03_Marks [.sl k 1 (u8s T)] (.tup [.sl .no 4 (marksV (marksF O T (T.length + 1) 0 []).1), I (marksF O T (T.length + 1) 0 []).2]) := by
  generalize hR : marksF O T (T.length + 1) 0 [] = R
  refine pspec' mixed w_fathomref03_Marks (by simp) (by simp [V.bd, bds, marksV, bdss_map (Mk.bd 0)]) fun n => ?_
  unfold c_fathomref03_Marks r_fathomref03_Marks
  (repeat' (first | simp -implicitDefEqProofs (disch := omega) only [go_sem, ↓reduceIte] | (((first | with_reducible apply cnd_c | with_reducible apply grd_c | with_reducible apply pck_c) <;> intro wh <;> (try rewrite [wh]) <;> try simp only [wdw] at wh) <;> (try (revert wh; intro _)) <;> try (exfalso; omega)) | refine andi ?_ | fail))
  refine loop_rule (fun s : Nat × Nat × List Mk × Nat × Obs => ⟨ofL [(0, .sl k 1 (u8s T)), (4, .sl (.tip n) 4 (marksV s.2.2.1)), (5, I s.2.1)], s.2.2.2.2, s.2.2.2.1, 61, n⟩) (fun s => T.length - s.2.1)
    (fun s => marksF O T s.1 s.2.1 s.2.2.1 = R ∧ T.length < s.2.1 + s.1 ∧ s.2.1 ≤ T.length ∧ s.2.2.1.length ≤ s.2.1 ∧ s.2.2.2.2 n = some (.tip 4 s.2.2.1.length) ∧ n + 1 ≤ s.2.2.2.1) (T.length + 1, 0, [], n + 1, upd (fun _ => none) n (some (.tip 4 0))) rfl ⟨hR, by simp only; omega, by simp only; omega, by simp, by simp only; rw [upd_same]; rfl, by simp⟩ fun s hs => ?_
  obtain ⟨f, a, out, y, ob⟩ := s
  obtain ⟨h1, h2, h3, h4, h5, h6⟩ := hs
  simp only at h1 h2 h3 h4 h5 h6 ⊢
  obtain ⟨f, rfl⟩ : ∃ g, f = g + 1 := ⟨f - 1, by omega⟩
  simp only [marksF] at h1
  (simp -implicitDefEqProofs (disch := omega) only [go_sem, ↓reduceIte])
  ((first | with_reducible apply cnd_c | with_reducible apply grd_c | with_reducible apply pck_c) <;> intro hlt0 <;> (try rewrite [hlt0]) <;> try simp only [wdw] at hlt0)
  · have ha : a = T.length := by omega
    subst ha
    rw [List.getElem?_eq_none (by omega)] at h1
    simp only at h1
    (repeat' (first | simp -implicitDefEqProofs (disch := omega) only [go_sem, ↓reduceIte, h5, marksV_len] | (((first | with_reducible apply cnd_c | with_reducible apply grd_c | with_reducible apply pck_c) <;> intro wh <;> (try rewrite [wh]) <;> try simp only [wdw] at wh) <;> (try (revert wh; intro _)) <;> try (exfalso; omega)) | refine andi ?_ | fail))
    rw [← h1]
    simp [marksV, endM, Mk.c]
  · have hlt : a < T.length := by omega
    rw [getq hlt] at h1
    simp only at h1
    have hbl := ref03_Blank T[a]
    obtain ⟨g1, g2⟩ := hO.ok a hlt
    have hone := hO.one a hlt
    by_cases hb : blankB T[a] = true
    · rw [if_pos hb] at h1
      rw [hb] at hbl
      (repeat' (first | simp -implicitDefEqProofs (disch := omega) only [go_sem, ↓reduceIte, getq hlt] | (((first | with_reducible apply cnd_c | with_reducible apply grd_c | with_reducible apply pck_c) <;> intro wh <;> (try rewrite [wh]) <;> try simp only [wdw] at wh) <;> (try (revert wh; intro _)) <;> try (exfalso; omega)) | refine andi ?_ | ((with_reducible refine callM_id ?_); refine callM_i hbl ?_) | fail))
      exact ⟨(f, a + 1, out, y, ob), ⟨h1, by simp only; omega, by simp only; omega, by simp only; omega, h5, h6⟩, by simp only; omega, rfl⟩
    · rw [if_neg hb] at h1
      rw [show blankB T[a] = false by simpa using hb] at hbl
      by_cases h35 : T[a] = 35
      · rw [if_pos h35] at h1
        have hsk := skipN_le (T.drop a)
        rw [List.length_drop] at hsk
        have hpos : 0 < skipN (T.drop a) := by
          rw [List.drop_eq_getElem_cons hlt]
          simp only [skipN, h35]
          simp
        rw [h35] at hbl
        (repeat' (first | simp -implicitDefEqProofs (disch := omega) only [go_sem, ↓reduceIte, getq hlt, h35] | (((first | with_reducible apply cnd_c | with_reducible apply grd_c | with_reducible apply pck_c) <;> intro wh <;> (try rewrite [wh]) <;> try simp only [wdw] at wh) <;> (try (revert wh; intro _)) <;> try (exfalso; omega)) | refine andi ?_ | ((with_reducible refine callM_id ?_); refine callM_i hbl ?_) | fail))
        refine loop_rule (fun j : Nat => ⟨ofL [(0, .sl k 1 (u8s T)), (4, .sl (.tip n) 4 (marksV out)), (5, I (a + j))], ob, y, 61, n⟩) (fun j => skipN (T.drop a) - j)
          (fun j => j ≤ skipN (T.drop a)) 0 (by simp) (Nat.zero_le _) fun j hj => ?_
        have hd := skipN_drop (T.drop a) j hj
        rw [List.getElem?_drop] at hd
        have e1 : ((a : Int) + (j : Int)) = ((a + j : Nat) : Int) := by omega
        by_cases hl2 : a + j < T.length
        · rw [getq hl2] at hd
          by_cases h10 : T[a + j] = 10
          · have hjr : j = skipN (T.drop a) := hd.2 (by simp [h10])
            (repeat' (first | simp -implicitDefEqProofs (disch := omega) only [go_sem, ↓reduceIte, e1, getq hl2, h10] | (((first | with_reducible apply cnd_c | with_reducible apply grd_c | with_reducible apply pck_c) <;> intro wh <;> (try rewrite [wh]) <;> try simp only [wdw] at wh) <;> (try (revert wh; intro _)) <;> try (exfalso; omega)) | refine andi ?_ | fail))
            rw [hjr]
            exact ⟨(f, a + skipN (T.drop a), out, y, ob), ⟨h1, by simp only; omega, by simp only; omega, by simp only; omega, h5, h6⟩, by simp only; omega, rfl⟩
          · have hjr : j ≠ skipN (T.drop a) := fun e => hd.1 e ⟨_, rfl, h10⟩
            (repeat' (first | simp -implicitDefEqProofs (disch := omega) only [go_sem, ↓reduceIte, e1, getq hl2] | (((first | with_reducible apply cnd_c | with_reducible apply grd_c | with_reducible apply pck_c) <;> intro wh <;> (try rewrite [wh]) <;> try simp only [wdw] at wh) <;> (try (revert wh; intro _)) <;> try (exfalso; omega)) | refine andi ?_ | fail))
            all_goals first
              | (exfalso; omega)
              | exact ⟨j + 1, by omega, by omega, by simp [Int.add_assoc]⟩
        · have hjr : j = skipN (T.drop a) := hd.2 (by rw [List.getElem?_eq_none (by omega)]; simp)
          (repeat' (first | simp -implicitDefEqProofs (disch := omega) only [go_sem, ↓reduceIte, e1] | (((first | with_reducible apply cnd_c | with_reducible apply grd_c | with_reducible apply pck_c) <;> intro wh <;> (try rewrite [wh]) <;> try simp only [wdw] at wh) <;> (try (revert wh; intro _)) <;> try (exfalso; omega)) | refine andi ?_ | fail))
          rw [hjr]
          exact ⟨(f, a + skipN (T.drop a), out, y, ob), ⟨h1, by simp only; omega, by simp only; omega, by simp only; omega, h5, h6⟩, by simp only; omega, rfl⟩
      · rw [if_neg h35] at h1
        by_cases hok : (O a).2 = true
        · rw [if_pos hok] at h1
          rw [hok] at hone
          obtain ⟨q1, q2, q3, q4⟩ := g2 hok
          (repeat' (first | simp -implicitDefEqProofs (disch := omega) only [go_sem, ↓reduceIte, getq hlt, Mk.c, marksV_len, h5] | (((first | with_reducible apply cnd_c | with_reducible apply grd_c | with_reducible apply pck_c) <;> intro wh <;> (try rewrite [wh]) <;> try simp only [wdw] at wh) <;> (try (revert wh; intro _)) <;> try (exfalso; omega)) | refine andi ?_ | ((with_reducible refine callM_id ?_); refine callM_i hbl ?_) | ((with_reducible refine callM_id ?_); refine callM_i hone ?_) | fail))
          have hM : marksV out ++ [Mk.c (O a).1] = marksV (out ++ [(O a).1]) := by simp [marksV]
          simp only [Mk.c] at hM
          rw [hM]
          refine ⟨(f, a + (O a).1.text.size, out ++ [(O a).1], y + 1, upd (upd ob y (some (.cells (O a).1.c))) n (some (.tip 4 (out.length + 1)))), ⟨h1, by simp only; omega, by simp only; omega, by simp only [List.length_append, List.length_cons, List.length_nil]; omega, by simp only; rw [upd_same, List.length_append]; rfl, by simp only; omega⟩, by simp only; omega, ?_⟩
          simp [Mk.c]
        · rw [if_neg hok] at h1
          rw [show (O a).2 = false by simpa using hok] at hone
          (repeat' (first | simp -implicitDefEqProofs (disch := omega) only [go_sem, ↓reduceIte, getq hlt, Mk.c] | (((first | with_reducible apply cnd_c | with_reducible apply grd_c | with_reducible apply pck_c) <;> intro wh <;> (try rewrite [wh]) <;> try simp only [wdw] at wh) <;> (try (revert wh; intro _)) <;> try (exfalso; omega)) | refine andi ?_ | ((with_reducible refine callM_id ?_); refine callM_i hbl ?_) | ((with_reducible refine callM_id ?_); refine callM_i hone ?_) | fail))
          rw [← h1]
          rfl
end Go.Proofs.Fathom
set_option linter.unusedVariables false
set_option linter.unusedSimpArgs false
namespace Go.Proofs.Fathom
open Go Go.Proofs
attribute [local irreducible] PSpec CSpec
/-- The reader. -/
structure Rs where
  at_ : Nat
  why : Int
  whr : Int
  nest : Int
def rdO (ms : List Mk) (s : Rs) : AObj := .cells [.sl .no 4 (marksV ms), I s.at_, I s.why, I s.whr, I 32768, I 32768, I 32768, I 32768, I s.nest]
/-- Marks of which the last alone is the end. -/
structure MsOk (ms : List Mk) : Prop where
  ex : ∃ l e, ms = l ++ [e] ∧ e.kind = 4 ∧ l.length ≤ 32768 ∧ ∀ m ∈ l, 0 ≤ m.kind ∧ m.kind ≤ 3
def nxt (ms : List Mk) (s : Rs) : Mk := ms.getD s.at_ ⟨4, ⟨#[]⟩, 0, 0, 0⟩
theorem ecallM_id {P : Program} {c : V} {args : List V} {S : St} {K : St → V → Prop} (h : ecallM P c args S K) : ecallM P c args S K := h
theorem ecall_m {P : Program} {f : FuncId} {args : List V} {sl : Nat → V} {ob : Obs} {nx nt bs i : Nat} {K : St → V → Prop} {r : V} {o o' : AObj} (h : CSpec P f (args ++ []) [(i, o)] nx r [(i, o')] nx) (ho : ob i = some o) (hi : i < nx)
    (hk : K ⟨sl, upd ob i (some o'), nx, nt, bs⟩ r) : ecallM P (.fn f []) args ⟨sl, ob, nx, nt, bs⟩ K := by
  refine ecall_c h ?_ ?_ ?_ (Nat.le_refl _) ?_
  · intro p hp
    simp only [List.mem_singleton] at hp
    subst hp
    exact ho
  · intro p hp
    simp only [List.mem_singleton] at hp
    subst hp
    exact ⟨o', by simp⟩
  · intro p hp
    simp only [List.mem_singleton] at hp
    subst hp
    exact ⟨hi, .inl ⟨o, by simp⟩⟩
  · exact hk
theorem ecall_ma {P : Program} {f : FuncId} {args : List V} {sl : Nat → V} {ob : Obs} {nx nt bs i : Nat} {K : St → V → Prop} {r : V} {o o' : AObj} (h : CSpec P f (args ++ []) [(i, o)] nx r [(i, o')] nx) (hk : K ⟨sl, upd ob i (some o'), nx, nt, bs⟩ r)
    (ho : ob i = some o := by first | exact upd_same _ _ _ | assumption | (rw [upd_ne _ _ (by omega)]; first | exact upd_same _ _ _ | assumption) | (rw [upd_ne _ _ (by omega), upd_ne _ _ (by omega)]; first | exact upd_same _ _ _ | assumption) | (rw [upd_ne _ _ (by omega), upd_ne _ _ (by omega), upd_ne _ _ (by omega)]; first | exact upd_same _ _ _ | assumption) | (rw [upd_ne _ _ (by omega), upd_ne _ _ (by omega), upd_ne _ _ (by omega), upd_ne _ _ (by omega)]; first | exact upd_same _ _ _ | assumption))
    (hi : i < nx := by omega) : ecallM P (.fn f []) args ⟨sl, ob, nx, nt, bs⟩ K := ecall_m h ho hi hk
theorem rdO_bd (n : Nat) (ms : List Mk) (s : Rs) : (rdO ms s).bd n = true := by
  simp [rdO, AObj.bd, bds, V.bd, marksV, bdss_map (Mk.bd n)]
/-- A reader's method. -/
theorem mspec {f : FuncId} {ac : ACode} {res : List ARes} {nt : Nat} (hf : FnW Tryz.prog f ac res nt) {args : List V} {r : V} {ms : List Mk} {s s' : Rs} {n i : Nat} (hi : i < n) (hlen : args.length ≤ nt) (hr : r.bd n = true)
    (h : awp Tryz.prog ac (retK res fun S v => v = r ∧ n ≤ S.nx ∧ S.ob i = some (rdO ms s')) ⟨ofL (argL 0 args), upd (fun _ => none) i (some (rdO ms s)), n, nt, n⟩) : CS f args [(i, rdO ms s)] n r [(i, rdO ms s')] n := by
  refine cspec' mixed hf hlen hr (Nat.le_refl _) (fun p hp => ?_) ?_
  · simp only [List.mem_singleton] at hp
    subst hp
    exact ⟨hi, rdO_bd n ms s'⟩
  · have e : (fun (S : St) v => v = r ∧ n ≤ S.nx ∧ ∀ p ∈ [(i, rdO ms s')], S.ob p.1 = some p.2) = fun S v => v = r ∧ n ≤ S.nx ∧ S.ob i = some (rdO ms s') := by
      funext S v
      simp
    rw [e]
    exact h
section
variable {ms : List Mk} {s : Rs} {n i : Nat}
theorem rd_ld0 {K : V → Prop} : ldO (some (rdO ms s)) 0 1 false K = K (.sl .no 4 (marksV ms)) := by simp [rdO, ldO, ldv]
theorem rd_ld1 {K : V → Prop} : ldO (some (rdO ms s)) 1 1 false K = K (I s.at_) := by simp [rdO, ldO, ldv]
theorem rd_ld2 {K : V → Prop} : ldO (some (rdO ms s)) 2 1 false K = K (I s.why) := by simp [rdO, ldO, ldv]
theorem rd_ld3 {K : V → Prop} : ldO (some (rdO ms s)) 3 1 false K = K (I s.whr) := by simp [rdO, ldO, ldv]
theorem rd_ld5 {K : V → Prop} : ldO (some (rdO ms s)) 5 1 false K = K (I 32768) := by simp [rdO, ldO, ldv]
theorem rd_ld6 {K : V → Prop} : ldO (some (rdO ms s)) 6 1 false K = K (I 32768) := by simp [rdO, ldO, ldv]
theorem rd_ld7 {K : V → Prop} : ldO (some (rdO ms s)) 7 1 false K = K (I 32768) := by simp [rdO, ldO, ldv]
theorem rd_ld8 {K : V → Prop} : ldO (some (rdO ms s)) 8 1 false K = K (I s.nest) := by simp [rdO, ldO, ldv]
theorem rd_st1 {sl : Nat → V} {ob : Obs} {nx nt bs : Nat} {K : St → V → Prop} : stO (some (rdO ms s)) 1 1 (.int .i64 ((s.at_ : Int) + 1)) ⟨sl, ob, nx, nt, bs⟩ i K = K ⟨sl, upd ob i (some (rdO ms ⟨s.at_ + 1, s.why, s.whr, s.nest⟩)), nx, nt, bs⟩ .junk := by simp [rdO, stO, splice, V.cells]
theorem rd_st2 {w : Int} {sl : Nat → V} {ob : Obs} {nx nt bs : Nat} {K : St → V → Prop} : stO (some (rdO ms s)) 2 1 (.int .i64 w) ⟨sl, ob, nx, nt, bs⟩ i K = K ⟨sl, upd ob i (some (rdO ms ⟨s.at_, w, s.whr, s.nest⟩)), nx, nt, bs⟩ .junk := by simp [rdO, stO, splice, V.cells]
theorem rd_st3 {w : Int} {sl : Nat → V} {ob : Obs} {nx nt bs : Nat} {K : St → V → Prop} : stO (some (rdO ms s)) 3 1 (.int .i64 w) ⟨sl, ob, nx, nt, bs⟩ i K = K ⟨sl, upd ob i (some (rdO ms ⟨s.at_, s.why, w, s.nest⟩)), nx, nt, bs⟩ .junk := by simp [rdO, stO, splice, V.cells]
theorem rd_st8 {w : Int} {sl : Nat → V} {ob : Obs} {nx nt bs : Nat} {K : St → V → Prop} : stO (some (rdO ms s)) 8 1 (.int .i64 w) ⟨sl, ob, nx, nt, bs⟩ i K = K ⟨sl, upd ob i (some (rdO ms ⟨s.at_, s.why, s.whr, w⟩)), nx, nt, bs⟩ .junk := by simp [rdO, stO, splice, V.cells]
attribute [go_sem] rd_ld0 rd_ld1 rd_ld2 rd_ld3 rd_ld5 rd_ld6 rd_ld7 rd_ld8 rd_st1 rd_st2 rd_st3 rd_st8
theorem nxt_get (h : s.at_ < ms.length) : ms[s.at_]? = some (nxt ms s) := by
  unfold nxt
  rw [List.getD_eq_getElem?_getD, getq h]; rfl
theorem marksV_get (l : List Mk) (j : Nat) : (marksV l)[j]? = l[j]?.map Mk.c := List.getElem?_map ..
theorem r_next (hi : i < n) (ha : s.at_ < ms.length) : CS F_fathomref04_reader_next [.ptr i 0] [(i, rdO ms s)] n (.agg (nxt ms s).c) [(i, rdO ms s)] n := by
  refine mspec w_fathomref04_reader_next hi (by simp) (by simp [V.bd, Mk.bd]) ?_
  unfold c_fathomref04_reader_next r_fathomref04_reader_next
  have hg := nxt_get ha
  (repeat' (first | simp -implicitDefEqProofs (disch := omega) only [go_sem, ↓reduceIte, marksV_get, hg, Mk.c] | (((first | with_reducible apply cnd_c | with_reducible apply grd_c | with_reducible apply pck_c) <;> intro wh <;> (try rewrite [wh]) <;> try simp only [wdw] at wh) <;> (try (revert wh; intro _)) <;> try (exfalso; omega)) | refine andi ?_ | fail))
  omega
def failR (ms : List Mk) (s : Rs) (w : Int) : Rs := if s.why = 0 then ⟨s.at_, w, (nxt ms s).at_, s.nest⟩ else s
theorem r_fail (hi : i < n) (ha : s.at_ < ms.length) (w : Int) : CS F_fathomref04_reader_fail [.ptr i 0, I w] [(i, rdO ms s)] n (.tup []) [(i, rdO ms (failR ms s w))] n := by
  refine mspec w_fathomref04_reader_fail hi (by simp) (by simp [V.bd, bds]) ?_
  unfold c_fathomref04_reader_fail r_fathomref04_reader_fail
  (repeat' (first | simp -implicitDefEqProofs (disch := omega) only [go_sem, ↓reduceIte, Mk.c] | (((first | with_reducible apply cnd_c | with_reducible apply grd_c | with_reducible apply pck_c) <;> intro wh <;> (try rewrite [wh]) <;> try simp only [wdw] at wh) <;> (try (revert wh; intro _)) <;> try (exfalso; omega)) | refine andi ?_ | ((with_reducible refine callM_id ?_); refine callM_i (r_next (s := ⟨s.at_, w, s.whr, s.nest⟩) (by omega) ha) ?_) | ((with_reducible refine ecallM_id ?_); refine ecall_ma (r_next (s := ⟨s.at_, w, s.whr, s.nest⟩) (by omega) ha) ?_) | fail))
  · rename_i h
    simp [failR, h]
  · rename_i h
    simp [failR, h, nxt]
def isB (ms : List Mk) (s : Rs) (x : ByteArray) : Bool := decide (s.why = 0) && (decide ((nxt ms s).kind = 1) || decide ((nxt ms s).kind = 3)) && decide ((nxt ms s).text = x)
theorem r_is (hi : i < n) (ha : s.at_ < ms.length) (x : ByteArray) : CS F_fathomref04_reader_is [.ptr i 0, .str x] [(i, rdO ms s)] n (.bool (isB ms s x)) [(i, rdO ms s)] n := by
  refine mspec w_fathomref04_reader_is hi (by simp) (by simp [V.bd, bds]) ?_
  unfold c_fathomref04_reader_is r_fathomref04_reader_is
  (repeat' (first | simp -implicitDefEqProofs (disch := omega) only [go_sem, ↓reduceIte, Mk.c] | (((first | with_reducible apply cnd_c | with_reducible apply grd_c | with_reducible apply pck_c) <;> intro wh <;> (try rewrite [wh]) <;> try simp only [wdw] at wh) <;> (try (revert wh; intro _)) <;> try (exfalso; omega)) | refine andi ?_ | ((with_reducible refine callM_id ?_); refine callM_i (r_next (by omega) ha) ?_) | ((with_reducible refine ecallM_id ?_); refine ecall_ma (r_next (by omega) ha) ?_) | fail))
  all_goals (refine ⟨?_, by omega⟩; simp_all [isB])
theorem MsOk.lt (h : MsOk ms) (ha : s.at_ < ms.length) (hk : (nxt ms s).kind ≠ 4) : s.at_ + 1 < ms.length := by
  obtain ⟨l, e, rfl, he, hl, hall⟩ := h
  rcases Nat.lt_or_ge (s.at_ + 1) (l ++ [e]).length with h1 | h1
  · exact h1
  · exfalso
    simp only [List.length_append, List.length_cons, List.length_nil] at ha h1
    have : s.at_ = l.length := by omega
    apply hk
    unfold nxt
    rw [List.getD_eq_getElem?_getD, this]
    simp [he]
theorem MsOk.len (h : MsOk ms) : ms.length ≤ 32769 := by
  obtain ⟨l, e, rfl, he, hl, hall⟩ := h
  simp; omega
theorem isB_kind {x : ByteArray} (h : isB ms s x = true) : s.why = 0 ∧ (nxt ms s).kind ≠ 4 ∧ (nxt ms s).text = x := by
  simp only [isB, Bool.and_eq_true, Bool.or_eq_true, decide_eq_true_eq] at h
  exact ⟨h.1.1, by omega, h.2⟩
def adv (s : Rs) : Rs := ⟨s.at_ + 1, s.why, s.whr, s.nest⟩
def takeR (ms : List Mk) (s : Rs) (x : ByteArray) : Bool × Rs := if isB ms s x then (true, adv s) else (false, s)
theorem r_take (hm : MsOk ms) (hi : i < n) (ha : s.at_ < ms.length) (x : ByteArray) : CS F_fathomref04_reader_take [.ptr i 0, .str x] [(i, rdO ms s)] n (.bool (takeR ms s x).1) [(i, rdO ms (takeR ms s x).2)] n := by
  refine mspec w_fathomref04_reader_take hi (by simp) (by simp [V.bd, bds]) ?_
  unfold c_fathomref04_reader_take r_fathomref04_reader_take
  have hb := r_is hi ha x
  have hml := hm.len
  cases h : isB ms s x <;> rw [h] at hb
  · (repeat' (first | simp -implicitDefEqProofs (disch := omega) only [go_sem, ↓reduceIte] | (((first | with_reducible apply cnd_c | with_reducible apply grd_c | with_reducible apply pck_c) <;> intro wh <;> (try rewrite [wh]) <;> try simp only [wdw] at wh) <;> (try (revert wh; intro _)) <;> try (exfalso; omega)) | refine andi ?_ | ((with_reducible refine callM_id ?_); refine callM_i hb ?_) | ((with_reducible refine ecallM_id ?_); refine ecall_ma hb ?_) | fail))
    simp [takeR, h]
  · (repeat' (first | simp -implicitDefEqProofs (disch := omega) only [go_sem, ↓reduceIte] | (((first | with_reducible apply cnd_c | with_reducible apply grd_c | with_reducible apply pck_c) <;> intro wh <;> (try rewrite [wh]) <;> try simp only [wdw] at wh) <;> (try (revert wh; intro _)) <;> try (exfalso; omega)) | refine andi ?_ | ((with_reducible refine callM_id ?_); refine callM_i hb ?_) | ((with_reducible refine ecallM_id ?_); refine ecall_ma hb ?_) | fail))
    simp [takeR, h, adv]
def wantR (ms : List Mk) (s : Rs) (x : ByteArray) : Rs := if isB ms s x then adv s else failR ms s 21
theorem r_want (hm : MsOk ms) (hi : i < n) (ha : s.at_ < ms.length) (x : ByteArray) : CS F_fathomref04_reader_want [.ptr i 0, .str x] [(i, rdO ms s)] n (.tup []) [(i, rdO ms (wantR ms s x))] n := by
  refine mspec w_fathomref04_reader_want hi (by simp) (by simp [V.bd, bds]) ?_
  unfold c_fathomref04_reader_want r_fathomref04_reader_want
  have hb := r_take hm hi ha x
  cases h : isB ms s x
  · simp only [takeR, h] at hb
    (repeat' (first | simp -implicitDefEqProofs (disch := omega) only [go_sem, ↓reduceIte] | (((first | with_reducible apply cnd_c | with_reducible apply grd_c | with_reducible apply pck_c) <;> intro wh <;> (try rewrite [wh]) <;> try simp only [wdw] at wh) <;> (try (revert wh; intro _)) <;> try (exfalso; omega)) | refine andi ?_ | ((with_reducible refine callM_id ?_); refine callM_i hb ?_) | ((with_reducible refine ecallM_id ?_); refine ecall_ma hb ?_) | ((with_reducible refine callM_id ?_); refine callM_i (r_fail hi ha 21) ?_) | ((with_reducible refine ecallM_id ?_); refine ecall_ma (r_fail hi ha 21) ?_) | fail))
    simp [wantR, h]
  · simp only [takeR, h] at hb
    (repeat' (first | simp -implicitDefEqProofs (disch := omega) only [go_sem, ↓reduceIte] | (((first | with_reducible apply cnd_c | with_reducible apply grd_c | with_reducible apply pck_c) <;> intro wh <;> (try rewrite [wh]) <;> try simp only [wdw] at wh) <;> (try (revert wh; intro _)) <;> try (exfalso; omega)) | refine andi ?_ | ((with_reducible refine callM_id ?_); refine callM_i hb ?_) | ((with_reducible refine ecallM_id ?_); refine ecall_ma hb ?_) | fail))
    simp [wantR, h]
def noMk : Mk := ⟨0, ⟨#[]⟩, 0, 0, 0⟩
def nameR (ms : List Mk) (s : Rs) : Mk × Rs := if s.why = 0 ∧ (nxt ms s).kind = 0 then (nxt ms s, adv s) else (noMk, failR ms s 21)
theorem r_name (hm : MsOk ms) (hi : i < n) (ha : s.at_ < ms.length) : CS F_fathomref04_reader_name [.ptr i 0] [(i, rdO ms s)] n (.agg (nameR ms s).1.c) [(i, rdO ms (nameR ms s).2)] n := by
  refine mspec w_fathomref04_reader_name hi (by simp) (by simp [V.bd, Mk.bd]) ?_
  unfold c_fathomref04_reader_name r_fathomref04_reader_name
  have hml := hm.len
  (repeat' (first | simp -implicitDefEqProofs (disch := omega) only [go_sem, ↓reduceIte, Mk.c] | (((first | with_reducible apply cnd_c | with_reducible apply grd_c | with_reducible apply pck_c) <;> intro wh <;> (try rewrite [wh]) <;> try simp only [wdw] at wh) <;> (try (revert wh; intro _)) <;> try (exfalso; omega)) | refine andi ?_ | ((with_reducible refine callM_id ?_); refine callM_i (r_next (by omega) ha) ?_) | ((with_reducible refine ecallM_id ?_); refine ecall_ma (r_next (by omega) ha) ?_) | ((with_reducible refine callM_id ?_); refine callM_i (r_fail (by omega) ha 21) ?_) | ((with_reducible refine ecallM_id ?_); refine ecall_ma (r_fail (by omega) ha 21) ?_) | fail))
  all_goals (refine ⟨?_, by omega, ?_⟩ <;> simp_all [nameR, noMk, adv])
def tN : ByteArray := ⟨#[78]⟩
def tB : ByteArray := ⟨#[66]⟩
def tL : ByteArray := ⟨#[76]⟩
def typR (ms : List Mk) (s : Rs) : Int × Rs := if isB ms s tN then (1, adv s) else if isB ms s tB then (2, adv s) else if isB ms s tL then (3, adv s) else (0, failR ms s 21)
theorem r_typ (hm : MsOk ms) (hi : i < n) (ha : s.at_ < ms.length) : CS F_fathomref04_reader_typ [.ptr i 0] [(i, rdO ms s)] n (I (typR ms s).1) [(i, rdO ms (typR ms s).2)] n := by
  refine mspec w_fathomref04_reader_typ hi (by simp) (by simp [V.bd]) ?_
  unfold c_fathomref04_reader_typ r_fathomref04_reader_typ
  have hml := hm.len
  (repeat' (first | simp -implicitDefEqProofs (disch := omega) only [go_sem, ↓reduceIte] | (((first | with_reducible apply cnd_c | with_reducible apply grd_c | with_reducible apply pck_c) <;> intro wh <;> (try rewrite [wh]) <;> try simp only [wdw] at wh) <;> (try (revert wh; intro _)) <;> try (exfalso; omega)) | refine andi ?_ | fail))
  refine loop_rule (fun j : Nat => ⟨ofL [(0, .ptr i 0), (3, .sl .full 1 [[.str tN], [.str tB], [.str tL]]), (4, I j)], upd (fun _ => none) i (some (rdO ms s)), n, 22, n⟩) (fun j => 3 - j)
    (fun j => j ≤ 3 ∧ (0 < j → isB ms s tN = false) ∧ (1 < j → isB ms s tB = false) ∧ (2 < j → isB ms s tL = false)) 0 rfl ⟨by omega, by omega, by omega, by omega⟩ fun j hj => ?_
  obtain ⟨hj, h0, h1, h2⟩ := hj
  match j, hj, h0, h1, h2 with
  | 0, hj, h0, h1, h2 =>
    have hb := r_take hm hi ha tN
    cases h : isB ms s tN <;> simp only [takeR, h, if_true, if_false, Bool.false_eq_true] at hb
    · (repeat' (first | simp -implicitDefEqProofs (disch := omega) only [go_sem, ↓reduceIte] | (((first | with_reducible apply cnd_c | with_reducible apply grd_c | with_reducible apply pck_c) <;> intro wh <;> (try rewrite [wh]) <;> try simp only [wdw] at wh) <;> (try (revert wh; intro _)) <;> try (exfalso; omega)) | refine andi ?_ | ((with_reducible refine callM_id ?_); refine callM_i hb ?_) | ((with_reducible refine ecallM_id ?_); refine ecall_ma hb ?_) | fail))
      exact ⟨1, by simp_all, by omega, rfl⟩
    · (repeat' (first | simp -implicitDefEqProofs (disch := omega) only [go_sem, ↓reduceIte] | (((first | with_reducible apply cnd_c | with_reducible apply grd_c | with_reducible apply pck_c) <;> intro wh <;> (try rewrite [wh]) <;> try simp only [wdw] at wh) <;> (try (revert wh; intro _)) <;> try (exfalso; omega)) | refine andi ?_ | ((with_reducible refine callM_id ?_); refine callM_i hb ?_) | ((with_reducible refine ecallM_id ?_); refine ecall_ma hb ?_) | fail))
      (simp [typR, h]; try omega)
  | 1, hj, h0, h1, h2 =>
    have hb := r_take hm hi ha tB
    cases h : isB ms s tB <;> simp only [takeR, h, if_true, if_false, Bool.false_eq_true] at hb
    · (repeat' (first | simp -implicitDefEqProofs (disch := omega) only [go_sem, ↓reduceIte] | (((first | with_reducible apply cnd_c | with_reducible apply grd_c | with_reducible apply pck_c) <;> intro wh <;> (try rewrite [wh]) <;> try simp only [wdw] at wh) <;> (try (revert wh; intro _)) <;> try (exfalso; omega)) | refine andi ?_ | ((with_reducible refine callM_id ?_); refine callM_i hb ?_) | ((with_reducible refine ecallM_id ?_); refine ecall_ma hb ?_) | fail))
      exact ⟨2, by simp_all, by omega, rfl⟩
    · (repeat' (first | simp -implicitDefEqProofs (disch := omega) only [go_sem, ↓reduceIte] | (((first | with_reducible apply cnd_c | with_reducible apply grd_c | with_reducible apply pck_c) <;> intro wh <;> (try rewrite [wh]) <;> try simp only [wdw] at wh) <;> (try (revert wh; intro _)) <;> try (exfalso; omega)) | refine andi ?_ | ((with_reducible refine callM_id ?_); refine callM_i hb ?_) | ((with_reducible refine ecallM_id ?_); refine ecall_ma hb ?_) | fail))
      (simp [typR, h, h0]; try omega)
  | 2, hj, h0, h1, h2 =>
    have hb := r_take hm hi ha tL
    cases h : isB ms s tL <;> simp only [takeR, h, if_true, if_false, Bool.false_eq_true] at hb
    · (repeat' (first | simp -implicitDefEqProofs (disch := omega) only [go_sem, ↓reduceIte] | (((first | with_reducible apply cnd_c | with_reducible apply grd_c | with_reducible apply pck_c) <;> intro wh <;> (try rewrite [wh]) <;> try simp only [wdw] at wh) <;> (try (revert wh; intro _)) <;> try (exfalso; omega)) | refine andi ?_ | ((with_reducible refine callM_id ?_); refine callM_i hb ?_) | ((with_reducible refine ecallM_id ?_); refine ecall_ma hb ?_) | fail))
      exact ⟨3, by simp_all, by omega, rfl⟩
    · (repeat' (first | simp -implicitDefEqProofs (disch := omega) only [go_sem, ↓reduceIte] | (((first | with_reducible apply cnd_c | with_reducible apply grd_c | with_reducible apply pck_c) <;> intro wh <;> (try rewrite [wh]) <;> try simp only [wdw] at wh) <;> (try (revert wh; intro _)) <;> try (exfalso; omega)) | refine andi ?_ | ((with_reducible refine callM_id ?_); refine callM_i hb ?_) | ((with_reducible refine ecallM_id ?_); refine ecall_ma hb ?_) | fail))
      (simp [typR, h, h0, h1]; try omega)
  | 3, hj, h0, h1, h2 =>
    (repeat' (first | simp -implicitDefEqProofs (disch := omega) only [go_sem, ↓reduceIte] | (((first | with_reducible apply cnd_c | with_reducible apply grd_c | with_reducible apply pck_c) <;> intro wh <;> (try rewrite [wh]) <;> try simp only [wdw] at wh) <;> (try (revert wh; intro _)) <;> try (exfalso; omega)) | refine andi ?_ | ((with_reducible refine callM_id ?_); refine callM_i (r_fail (by omega) ha 21) ?_) | ((with_reducible refine ecallM_id ?_); refine ecall_ma (r_fail (by omega) ha 21) ?_) | fail))
    (simp [typR, h0, h1, h2]; try omega)
  | j + 4, hj, h0, h1, h2 => omega
end
end Go.Proofs.Fathom
