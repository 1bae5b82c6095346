/- A part of the proof of 'Rows.QueryReadUptoSaid': for every text and every seeds (of bulk at most 1048576 together) fathomlaw19.QueryRead returns true and its arguments read afterwards as before. -/
import Derived.Test.YtaikjbfkbijlnaaGreatF37
import Derived.Test.YtaikjbfkbijlnaaGreatF31
set_option linter.unusedVariables false
set_option linter.unusedSimpArgs false
set_option linter.unusedSectionVars false
namespace Go.Proofs.Fathom
open Go Go.Proofs
attribute [local irreducible] PSpec CSpec
/-! ### Definitions and programs -/
def parL (ms : List Mk) : Nat → List Pm → Rs → List Pm × Rs
  | 0, l, s => (l, s)
  | k + 1, l, s =>
    if s.why = 0 ∧ isB ms s tkCl = false then
      let x := nameR ms (if l.length = 0 then s else wantR ms s tkCom)
      let t := typR ms x.2
      parL ms k (l ++ [⟨x.1.text, t.1, x.1.at_⟩]) t.2
    else (l, s)
def defR (ms : List Mk) (s : Rs) : Fn × Rs :=
  let m := nameR ms s
  let q := parL ms (ms.length + 1) [] (wantR ms m.2 tkOp)
  let t := typR ms (wantR ms (wantR ms q.2 tkCl) tkCol)
  let e := exprR ms (12 * ms.length + 9) (wantR ms t.2 tkIs)
  (⟨m.1.text, q.1, t.1, e.1, m.1.at_⟩, wantR ms e.2 tkSem)
def progL (ms : List Mk) : Nat → List Fn → Rs → List Fn × Rs
  | 0, l, s => (l, s)
  | k + 1, l, s =>
    if s.why = 0 ∧ (l.length = 0 ∨ (nxt ms s).kind ≠ 4) then
      let f := defR ms s
      progL ms k (l ++ [f.1]) f.2
    else (l, s)
def tyOk (t : Int) : Prop := 1 ≤ t ∧ t ≤ 3
structure FOk (f : Fn) : Prop where
  typ : tyOk f.typ
  pars : ∀ p ∈ f.params, tyOk p.typ
  wf : f.body.wf
  sz : f.body.sz ≤ 32769
  len : f.params.length ≤ 32769
section
variable {ms : List Mk} (hm : MsOk ms)
include hm
theorem mu_le (s : Rs) : mu ms s ≤ ms.length := by unfold mu; split <;> omega
theorem par_law : ∀ (k : Nat) (l : List Pm) (s : Rs), s.at_ < ms.length → mu ms s + 1 ≤ k → Pt ms s (parL ms k l s).2 0 ∧ ((parL ms k l s).2.why = 0 → ((∀ p ∈ l, tyOk p.typ) → ∀ p ∈ (parL ms k l s).1, tyOk p.typ) ∧ 2 * (parL ms k l s).1.length + s.at_ ≤ (parL ms k l s).2.at_ + 2 * l.length)
  | 0, l, s, ha, hk => by omega
  | k + 1, l, s, ha, hk => by
    simp only [parL]
    split
    · rename_i hb
      have hw := hb.1
      have p1 : Pt ms s (if l.length = 0 then s else wantR ms s tkCom) 0 := by
        split
        · exact Pt.refl ha
        · exact (want_pt hm ha _).mono (by omega)
      have p2 := name_pt hm p1.lt
      have p3 := typ_pt hm p2.lt
      have pp := (p1.trans p2).trans p3.1
      have m1 := (pp.mono (e := 1) (by omega)).mu1 hw
      have ih := par_law k (l ++ [⟨(nameR ms (if l.length = 0 then s else wantR ms s tkCom)).1.text, (typR ms (nameR ms (if l.length = 0 then s else wantR ms s tkCom)).2).1, (nameR ms (if l.length = 0 then s else wantR ms s tkCom)).1.at_⟩]) _ p3.1.lt (by omega)
      refine ⟨(pp.trans ih.1).mono (by omega), fun w => ?_⟩
      have w2 := ih.1.ad w
      obtain ⟨a, b⟩ := ih.2 w
      have w3 := (pp.ad w2.1).2
      refine ⟨fun hl => a fun p hp => ?_, by simp only [List.length_append, List.length_cons, List.length_nil] at b; omega⟩
      simp only [List.mem_append, List.mem_singleton] at hp
      rcases hp with hp | rfl
      · exact hl p hp
      · exact p3.2 w2.1
    · exact ⟨Pt.refl ha, fun w => ⟨fun h => h, by simp only; omega⟩⟩
theorem def_law (s : Rs) (ha : s.at_ < ms.length) : Pt ms s (defR ms s).2 2 ∧ ((defR ms s).2.why = 0 → FOk (defR ms s).1) := by
  have p1 := name_pt hm ha
  have p2 := want_pt hm p1.lt tkOp
  have m2 := mu_le hm (wantR ms (nameR ms s).2 tkOp)
  have q3 := par_law hm (ms.length + 1) [] _ p2.lt (by omega)
  have p4 := want_pt hm q3.1.lt tkCl
  have p5 := want_pt hm p4.lt tkCol
  have q6 := typ_pt hm p5.lt
  have p7 := want_pt hm q6.1.lt tkIs
  have m7 := mu_le hm (wantR ms (typR ms (wantR ms (wantR ms (parL ms (ms.length + 1) [] (wantR ms (nameR ms s).2 tkOp)).2 tkCl) tkCol)).2 tkIs)
  have q8 := (al hm (12 * ms.length + 9)).expr _ p7.lt (by omega)
  have p9 := want_pt hm q8.1.lt tkSem
  have pp := ((((((((p1.trans p2).trans q3.1).trans p4).trans p5).trans q6.1).trans p7).trans q8.1).trans p9)
  refine ⟨pp.mono (by omega), fun w => ?_⟩
  have w8 := (p9.ad w)
  have w7 := (q8.1.ad w8.1)
  have w6 := (p7.ad w7.1)
  have w5 := (q6.1.ad w6.1)
  have w4 := (p5.ad w5.1)
  have w3 := (p4.ad w4.1)
  have hml := hm.len
  have l8 := q8.1.lt
  have l3 := q3.1.lt
  obtain ⟨a, b⟩ := q8.2 w8.1
  obtain ⟨c, d⟩ := q3.2 w3.1
  exact ⟨q6.2 w6.1, c (fun p hp => by cases hp), a, by simp only [defR]; omega, by simp only [defR]; simp only [List.length_nil] at d; omega⟩
theorem prog_law : ∀ (k : Nat) (l : List Fn) (s : Rs), s.at_ < ms.length → mu ms s + 1 ≤ k → Pt ms s (progL ms k l s).2 0 ∧ ((progL ms k l s).2.why = 0 → ((∀ f ∈ l, FOk f) → ∀ f ∈ (progL ms k l s).1, FOk f) ∧ 0 < (progL ms k l s).1.length)
  | 0, l, s, ha, hk => by omega
  | k + 1, l, s, ha, hk => by
    simp only [progL]
    split
    · rename_i hb
      have hw := hb.1
      have p1 := def_law hm s ha
      have m1 := (p1.1.mono (e := 1) (by omega)).mu1 hw
      have ih := prog_law k (l ++ [(defR ms s).1]) _ p1.1.lt (by omega)
      refine ⟨(p1.1.trans ih.1).mono (by omega), fun w => ?_⟩
      have w2 := ih.1.ad w
      obtain ⟨a, b⟩ := ih.2 w
      refine ⟨fun hl => a fun p hp => ?_, b⟩
      simp only [List.mem_append, List.mem_singleton] at hp
      rcases hp with hp | rfl
      · exact hl p hp
      · exact p1.2 w2.1
    · rename_i hb
      refine ⟨Pt.refl ha, fun w => ⟨fun h => h, ?_⟩⟩
      rcases Nat.eq_zero_or_pos l.length with h | h
      · exact absurd ⟨w, .inl h⟩ hb
      · exact h
set_option maxHeartbeats 2000000 in
theorem wk_def (s : Rs) (ha : Ri ms s) (q : Nat) (hq : q < 32768) (n i : Nat) (hi : i < n) : CS F_fathomref04_reader_def [.ptr i 0, I q] [(i, rdO ms s)] n (.agg (defR ms s).1.c) [(i, rdO ms (defR ms s).2)] n := by
  have hml := hm.len
  have hl := ha.lt
  refine mspec w_fathomref04_reader_def hi (by simp) (by simp [V.bd, Fn.bd]) ?_
  unfold c_fathomref04_reader_def r_fathomref04_reader_def
  have p1 := name_pt hm hl
  have p2 := want_pt hm p1.lt tkOp
  have hr2 := (ha.step p1).step p2
  have m2 := mu_le hm (wantR ms (nameR ms s).2 tkOp)
  generalize hD : defR ms s = D
  simp only [defR] at hD
  have hn := fun n (hi : i < n) => r_name hm (n := n) hi hl
  generalize nameR ms s = m at *
  obtain ⟨m, s1⟩ := m
  simp only at p1 p2 hr2 m2 hD hn
  have hw1 := fun n (hi : i < n) => r_want hm (n := n) hi p1.lt tkOp
  generalize wantR ms s1 tkOp = s2 at *
  (repeat' (first | simp -implicitDefEqProofs (disch := omega) only [go_sem, ↓reduceIte, Mk.c] | (((first | with_reducible apply cnd_c | with_reducible apply grd_c | with_reducible apply pck_c) <;> intro wh <;> (try rewrite [wh]) <;> try simp only [wdw] at wh) <;> (try (revert wh; intro _)) <;> try (exfalso; omega)) | refine andi ?_ | ((with_reducible refine callM_id ?_); refine callM_i (r_next (by omega) hl) ?_) | ((with_reducible refine ecallM_id ?_); refine ecall_ma (r_next (by omega) hl) ?_) | ((with_reducible refine callM_id ?_); refine callM_i (hn _ (by omega)) ?_) | ((with_reducible refine ecallM_id ?_); refine ecall_ma (hn _ (by omega)) ?_) | ((with_reducible refine callM_id ?_); refine callM_i (hw1 _ (by omega)) ?_) | ((with_reducible refine ecallM_id ?_); refine ecall_ma (hw1 _ (by omega)) ?_) | fail))
  all_goals
    refine loop_o (fun t : Nat × List Pm × Tok × Rs × Nat => ofL [(0, .ptr i 0), (4, .ptr n 0), (6, .ptr (n + 1 + 1) 0)]) (fun t => t.2.2.2.2) (fun t => t.1)
      (fun t ob => mu ms t.2.2.2.1 + 1 ≤ t.1 ∧ Ri ms t.2.2.2.1 ∧ parL ms t.1 t.2.1 t.2.2.2.1 = parL ms (ms.length + 1) [] s2 ∧ n + 3 ≤ t.2.2.2.2 ∧ 2 * t.2.1.length ≤ 32770 ∧ (t.2.2.2.1.why = 0 → 2 * t.2.1.length ≤ t.2.2.2.1.at_) ∧ ob i = some (rdO ms t.2.2.2.1) ∧
        ob (n + 1 + 1) = some (.cells [.str m.text, .sl t.2.2.1 3 (t.2.1.map Pm.c), .int .i64 0, .int .i64 0, .str ⟨#[]⟩, .str ⟨#[]⟩, .int .i64 0, .cpx 0 0, .sl .full 7 [], .int .i64 0, .int .i64 m.at_]) ∧ ob n = some (.cells [.str ⟨#[]⟩, .sl .full 3 [], .int .i64 0, .int .i64 0, .str ⟨#[]⟩, .str ⟨#[]⟩, .int .i64 0, .cpx 0 0, .sl .full 7 [], .int .i64 0, .int .i64 0]) ∧ ((t.2.1 = [] ∧ t.2.2.1 = .full) ∨ ∃ w, 0 < t.2.1.length ∧ t.2.2.1 = .tip w ∧ ob w = some (.tip 3 t.2.1.length) ∧ n + 3 ≤ w ∧ w < t.2.2.2.2))
      (ms.length + 1, [], .full, s2, n + 1 + 1 + 1) rfl rfl ⟨by simp only; omega, hr2, rfl, by simp only; omega, by simp, by simp, ?_, ?_, ?_, .inl ⟨rfl, rfl⟩⟩ fun t ob ht => ?_
    · simp (disch := omega) only [upd_same', upd_ne']
    · simp (disch := omega) only [upd_same', upd_ne', List.map_nil]
    · simp (disch := omega) only [upd_same', upd_ne']
  all_goals
    obtain ⟨k, l, tok, t, y⟩ := t
    simp only at ht ⊢
    obtain ⟨hmu, hr, hfin, hy, hll, hlw, ho1, ho2, ho3, hor⟩ := ht
    obtain ⟨k, rfl⟩ : ∃ p, k = p + 1 := ⟨k - 1, by omega⟩
    have hl2 := hr.lt
    have hi1 := fun n (hi : i < n) => r_is (n := n) hi hl2 tkCl
    by_cases hc : t.why = 0 ∧ isB ms t tkCl = false
    · obtain ⟨hw, hb1⟩ := hc
      rw [hb1] at hi1
      have hlw := hlw hw
      have p1 : Pt ms t (if l.length = 0 then t else wantR ms t tkCom) 0 := by
        split
        · exact Pt.refl hl2
        · exact (want_pt hm hl2 _).mono (by omega)
      have e : parL ms (k + 1) l t = parL ms k (l ++ [⟨(nameR ms (if l.length = 0 then t else wantR ms t tkCom)).1.text, (typR ms (nameR ms (if l.length = 0 then t else wantR ms t tkCom)).2).1, (nameR ms (if l.length = 0 then t else wantR ms t tkCom)).1.at_⟩]) (typR ms (nameR ms (if l.length = 0 then t else wantR ms t tkCom)).2).2 := by
        rw [parL, if_pos ⟨hw, hb1⟩]
      rw [e] at hfin
      have hw2 := fun n (hi : i < n) => r_want hm (n := n) hi hl2 tkCom
      have hlc : l.length = 0 → (if l.length = 0 then t else wantR ms t tkCom) = t := fun h => if_pos h
      have hlc2 : 0 < l.length → (if l.length = 0 then t else wantR ms t tkCom) = wantR ms t tkCom := fun h => if_neg (by omega)
      generalize (if l.length = 0 then t else wantR ms t tkCom) = s0 at *
      have hl0 := p1.lt
      have p2 := name_pt hm hl0
      have hn0 := fun n (hi : i < n) => r_name hm (n := n) hi hl0
      generalize nameR ms s0 = x at *
      obtain ⟨x, s3⟩ := x
      simp only at p2 hn0 hfin
      have p3 := (typ_pt hm p2.lt).1
      have ht0 := fun n (hi : i < n) => r_typ hm (n := n) hi p2.lt
      generalize typR ms s3 = z at *
      obtain ⟨z, u⟩ := z
      simp only at p3 ht0 hfin
      have pp := (p1.trans p2).trans p3
      have m1 := (pp.mono (e := 1) (by omega)).mu1 hw
      have hru := hr.step pp
      have hlw3 : u.why = 0 → 2 * (l.length + 1) ≤ u.at_ := fun w => by
        have := (pp.ad w).2
        omega
      rcases hor with ⟨hle, htk⟩ | ⟨w, hl0', htk, ho4, hw1', hw3⟩
      · subst hle htk
        have := hlc rfl
        subst this
        (repeat' (first | simp -implicitDefEqProofs (disch := omega) only [go_sem, ↓reduceIte, Mk.c, ho1, ho2, ho3, hw, List.map_nil] | (((first | with_reducible apply cnd_c | with_reducible apply grd_c | with_reducible apply pck_c) <;> intro wh <;> (try rewrite [wh]) <;> try simp only [wdw] at wh) <;> (try (revert wh; intro _)) <;> try (exfalso; omega)) | refine andi ?_ | ((with_reducible refine callM_id ?_); refine callM_i (hi1 _ (by omega)) ?_) | ((with_reducible refine ecallM_id ?_); refine ecall_ma (hi1 _ (by omega)) ?_) | ((with_reducible refine callM_id ?_); refine callM_i (r_next (by omega) hl0) ?_) | ((with_reducible refine ecallM_id ?_); refine ecall_ma (r_next (by omega) hl0) ?_) | ((with_reducible refine callM_id ?_); refine callM_i (hn0 _ (by omega)) ?_) | ((with_reducible refine ecallM_id ?_); refine ecall_ma (hn0 _ (by omega)) ?_) | ((with_reducible refine callM_id ?_); refine callM_i (ht0 _ (by omega)) ?_) | ((with_reducible refine ecallM_id ?_); refine ecall_ma (ht0 _ (by omega)) ?_) | fail))
        all_goals
          refine ⟨(k, [⟨x.text, z, x.at_⟩], .tip (y + 1), u, y + 1 + 1), ⟨by simp only; omega, hru, hfin, by simp only; omega, by simp, hlw3, rfl, by simp [Pm.c], .inr ⟨y + 1, by simp, rfl, ?_, by omega, by simp only; omega⟩⟩, by simp only; omega, rfl⟩
          simp (disch := omega) only [upd_same', upd_ne']
          rfl
      · subst htk
        have := hlc2 hl0'
        subst this
        have hpm : l.map Pm.c ++ [[.str x.text, .int .i64 z, .int .i64 x.at_]] = (l ++ [(⟨x.text, z, x.at_⟩ : Pm)]).map Pm.c := by simp [Pm.c]
        (repeat' (first | simp -implicitDefEqProofs (disch := omega) only [go_sem, ↓reduceIte, Mk.c, ho1, ho2, ho3, ho4, hw, hpm] | (((first | with_reducible apply cnd_c | with_reducible apply grd_c | with_reducible apply pck_c) <;> intro wh <;> (try rewrite [wh]) <;> try simp only [wdw] at wh) <;> (try (revert wh; intro _)) <;> try (exfalso; omega)) | refine andi ?_ | ((with_reducible refine callM_id ?_); refine callM_i (hi1 _ (by omega)) ?_) | ((with_reducible refine ecallM_id ?_); refine ecall_ma (hi1 _ (by omega)) ?_) | ((with_reducible refine callM_id ?_); refine callM_i (hw2 _ (by omega)) ?_) | ((with_reducible refine ecallM_id ?_); refine ecall_ma (hw2 _ (by omega)) ?_) | ((with_reducible refine callM_id ?_); refine callM_i (r_next (by omega) hl0) ?_) | ((with_reducible refine ecallM_id ?_); refine ecall_ma (r_next (by omega) hl0) ?_) | ((with_reducible refine callM_id ?_); refine callM_i (hn0 _ (by omega)) ?_) | ((with_reducible refine ecallM_id ?_); refine ecall_ma (hn0 _ (by omega)) ?_) | ((with_reducible refine callM_id ?_); refine callM_i (ht0 _ (by omega)) ?_) | ((with_reducible refine ecallM_id ?_); refine ecall_ma (ht0 _ (by omega)) ?_) | fail))
        all_goals
          refine ⟨(k, l ++ [⟨x.text, z, x.at_⟩], .tip w, u, y + 1), ⟨by simp only; omega, hru, hfin, by simp only; omega, by simp only [List.length_append, List.length_cons, List.length_nil]; omega, by simp only [List.length_append, List.length_cons, List.length_nil]; exact hlw3, rfl, by simp [Pm.c], .inr ⟨w, by simp, rfl, ?_, by omega, by simp only; omega⟩⟩, by simp only; omega, rfl⟩
          simp (disch := omega) only [upd_same', upd_ne']
          simp
    · have e : parL ms (k + 1) l t = (l, t) := by rw [parL, if_neg hc]
      rw [e] at hfin
      rw [← hfin] at hD
      simp only at hD
      have p4 := want_pt hm hl2 tkCl
      have hv4 := fun n (hi : i < n) => r_want hm (n := n) hi hl2 tkCl
      generalize wantR ms t tkCl = s4 at *
      have p5 := want_pt hm p4.lt tkCol
      have hv5 := fun n (hi : i < n) => r_want hm (n := n) hi p4.lt tkCol
      generalize wantR ms s4 tkCol = s5 at *
      have p6 := (typ_pt hm p5.lt).1
      have hv6 := fun n (hi : i < n) => r_typ hm (n := n) hi p5.lt
      generalize typR ms s5 = z at *
      obtain ⟨z, s6⟩ := z
      simp only at p6 hv6 hD
      have p7 := want_pt hm p6.lt tkIs
      have hv7 := fun n (hi : i < n) => r_want hm (n := n) hi p6.lt tkIs
      have m7 := mu_le hm (wantR ms s6 tkIs)
      generalize wantR ms s6 tkIs = s7 at *
      have hr7 := (((hr.step p4).step p5).step p6).step p7
      have hv8 := (wkA hm (12 * ms.length + 9)).expr s7 hr7 (by omega)
      have g8 := (al hm (12 * ms.length + 9)).expr s7 p7.lt (by omega)
      generalize exprR ms (12 * ms.length + 9) s7 = b at *
      obtain ⟨b, s8⟩ := b
      simp only at hv8 g8 hD
      have hl8 : s8.at_ < ms.length := g8.1.lt
      have hv9 := fun n (hi : i < n) => r_want hm (n := n) hi hl8 tkSem
      generalize wantR ms s8 tkSem = s9 at *
      by_cases hw : t.why = 0
      · have hb1 : isB ms t tkCl = true := by simpa [hw] using hc
        rw [hb1] at hi1
        (repeat' (first | simp -implicitDefEqProofs (disch := omega) only [go_sem, ↓reduceIte, Mk.c, ho1, ho2, ho3, hw, Ex.c_eq b] | (((first | with_reducible apply cnd_c | with_reducible apply grd_c | with_reducible apply pck_c) <;> intro wh <;> (try rewrite [wh]) <;> try simp only [wdw] at wh) <;> (try (revert wh; intro _)) <;> try (exfalso; omega)) | refine andi ?_ | ((with_reducible refine callM_id ?_); refine callM_i (hi1 _ (by omega)) ?_) | ((with_reducible refine ecallM_id ?_); refine ecall_ma (hi1 _ (by omega)) ?_) | ((with_reducible refine callM_id ?_); refine callM_i (hv4 _ (by omega)) ?_) | ((with_reducible refine ecallM_id ?_); refine ecall_ma (hv4 _ (by omega)) ?_) | ((with_reducible refine callM_id ?_); refine callM_i (hv5 _ (by omega)) ?_) | ((with_reducible refine ecallM_id ?_); refine ecall_ma (hv5 _ (by omega)) ?_) | ((with_reducible refine callM_id ?_); refine callM_i (hv6 _ (by omega)) ?_) | ((with_reducible refine ecallM_id ?_); refine ecall_ma (hv6 _ (by omega)) ?_) | ((with_reducible refine callM_id ?_); refine callM_i (hv7 _ (by omega)) ?_) | ((with_reducible refine ecallM_id ?_); refine ecall_ma (hv7 _ (by omega)) ?_) | ((with_reducible refine callM_id ?_); refine callM_i (hv8.m (by omega)) ?_) | ((with_reducible refine ecallM_id ?_); refine ecall_ma (hv8.m (by omega)) ?_) | ((with_reducible refine callM_id ?_); refine callM_i (hv9 _ (by omega)) ?_) | ((with_reducible refine ecallM_id ?_); refine ecall_ma (hv9 _ (by omega)) ?_) | fail))
        subst hD
        exact ⟨by simp [Fn.c], by omega, rfl⟩
      · (repeat' (first | simp -implicitDefEqProofs (disch := omega) only [go_sem, ↓reduceIte, Mk.c, ho1, ho2, ho3, Ex.c_eq b] | (((first | with_reducible apply cnd_c | with_reducible apply grd_c | with_reducible apply pck_c) <;> intro wh <;> (try rewrite [wh]) <;> try simp only [wdw] at wh) <;> (try (revert wh; intro _)) <;> try (exfalso; omega)) | refine andi ?_ | ((with_reducible refine callM_id ?_); refine callM_i (hv4 _ (by omega)) ?_) | ((with_reducible refine ecallM_id ?_); refine ecall_ma (hv4 _ (by omega)) ?_) | ((with_reducible refine callM_id ?_); refine callM_i (hv5 _ (by omega)) ?_) | ((with_reducible refine ecallM_id ?_); refine ecall_ma (hv5 _ (by omega)) ?_) | ((with_reducible refine callM_id ?_); refine callM_i (hv6 _ (by omega)) ?_) | ((with_reducible refine ecallM_id ?_); refine ecall_ma (hv6 _ (by omega)) ?_) | ((with_reducible refine callM_id ?_); refine callM_i (hv7 _ (by omega)) ?_) | ((with_reducible refine ecallM_id ?_); refine ecall_ma (hv7 _ (by omega)) ?_) | ((with_reducible refine callM_id ?_); refine callM_i (hv8.m (by omega)) ?_) | ((with_reducible refine ecallM_id ?_); refine ecall_ma (hv8.m (by omega)) ?_) | ((with_reducible refine callM_id ?_); refine callM_i (hv9 _ (by omega)) ?_) | ((with_reducible refine ecallM_id ?_); refine ecall_ma (hv9 _ (by omega)) ?_) | fail))
        subst hD
        exact ⟨by simp [Fn.c], by omega, rfl⟩
end
end Go.Proofs.Fathom
set_option linter.unusedVariables false
set_option linter.unusedSimpArgs false
set_option linter.unusedSectionVars false
namespace Go.Proofs.Fathom
open Go Go.Proofs
attribute [local irreducible] PSpec CSpec
section
variable {ms : List Mk} (hm : MsOk ms)
include hm
theorem wk_prog (s : Rs) (ha : Ri ms s) (n i : Nat) (hi : i < n) : CS F_fathomref04_reader_program [.ptr i 0] [(i, rdO ms s)] n (.agg [.sl .no 11 ((progL ms (ms.length + 1) [] s).1.map Fn.c)]) [(i, rdO ms (progL ms (ms.length + 1) [] s).2)] n := by
  have hml := hm.len
  have hl := ha.lt
  refine mspec w_fathomref04_reader_program hi (by simp) (by simp [V.bd, bds, bdss_map (Fn.bd n)]) ?_
  unfold c_fathomref04_reader_program r_fathomref04_reader_program
  have m2 := mu_le hm s
  generalize hD : progL ms (ms.length + 1) [] s = D
  (repeat' (first | simp -implicitDefEqProofs (disch := omega) only [go_sem, ↓reduceIte] | (((first | with_reducible apply cnd_c | with_reducible apply grd_c | with_reducible apply pck_c) <;> intro wh <;> (try rewrite [wh]) <;> try simp only [wdw] at wh) <;> (try (revert wh; intro _)) <;> try (exfalso; omega)) | refine andi ?_ | fail))
  refine loop_o (fun t : Nat × List Fn × Tok × Rs × Nat => ofL [(0, .ptr i 0), (2, .ptr n 0), (3, .ptr (n + 1) 0)]) (fun t => t.2.2.2.2) (fun t => t.1)
    (fun t ob => mu ms t.2.2.2.1 + 1 ≤ t.1 ∧ Ri ms t.2.2.2.1 ∧ progL ms t.1 t.2.1 t.2.2.2.1 = D ∧ n + 2 ≤ t.2.2.2.2 ∧ 2 * t.2.1.length ≤ 32770 ∧ (t.2.2.2.1.why = 0 → 2 * t.2.1.length ≤ t.2.2.2.1.at_) ∧ ob i = some (rdO ms t.2.2.2.1) ∧
      ob (n + 1) = some (.cells [.sl t.2.2.1 11 (t.2.1.map Fn.c)]) ∧ ob n = some (.cells [.sl .full 11 []]) ∧ ((t.2.1 = [] ∧ t.2.2.1 = .full) ∨ ∃ w, 0 < t.2.1.length ∧ t.2.2.1 = .tip w ∧ ob w = some (.tip 11 t.2.1.length) ∧ n + 2 ≤ w ∧ w < t.2.2.2.2))
    (ms.length + 1, [], .full, s, n + 1 + 1) rfl rfl ⟨by simp only; omega, ha, hD, by simp only; omega, by simp, by simp, ?_, ?_, ?_, .inl ⟨rfl, rfl⟩⟩ fun t ob ht => ?_
  · simp (disch := omega) only [upd_same', upd_ne']
  · simp (disch := omega) only [upd_same', upd_ne', List.map_nil]
  · simp (disch := omega) only [upd_same', upd_ne']
  obtain ⟨k, l, tok, t, y⟩ := t
  simp only at ht ⊢
  obtain ⟨hmu, hr, hfin, hy, hll, hlw, ho1, ho2, ho3, hor⟩ := ht
  obtain ⟨k, rfl⟩ : ∃ p, k = p + 1 := ⟨k - 1, by omega⟩
  have hl2 := hr.lt
  by_cases hc : t.why = 0 ∧ (l.length = 0 ∨ (nxt ms t).kind ≠ 4)
  · have hw := hc.1
    have hlw := hlw hw
    have e : progL ms (k + 1) l t = progL ms k (l ++ [(defR ms t).1]) (defR ms t).2 := by rw [progL, if_pos hc]
    rw [e] at hfin
    have p1 := (def_law hm t hl2).1
    have hd := fun n (hi : i < n) => wk_def hm t hr l.length (by omega) n i hi
    generalize defR ms t = x at *
    obtain ⟨x, u⟩ := x
    simp only at p1 hd hfin
    have m1 := (p1.mono (e := 1) (by omega)).mu1 hw
    have hru := hr.step p1
    have hlw3 : u.why = 0 → 2 * (l.length + 1) ≤ u.at_ := fun w => by
      have := (p1.ad w).2
      omega
    rcases hor with ⟨hle, htk⟩ | ⟨w, hl0', htk, ho4, hw1', hw3⟩
    · subst hle htk
      (repeat' (first | simp -implicitDefEqProofs (disch := omega) only [go_sem, ↓reduceIte, Mk.c, ho1, ho2, ho3, hw, List.map_nil, Fn.c] | (((first | with_reducible apply cnd_c | with_reducible apply grd_c | with_reducible apply pck_c) <;> intro wh <;> (try rewrite [wh]) <;> try simp only [wdw] at wh) <;> (try (revert wh; intro _)) <;> try (exfalso; omega)) | refine andi ?_ | ((with_reducible refine callM_id ?_); refine callM_i (r_next (by omega) hl2) ?_) | ((with_reducible refine ecallM_id ?_); refine ecall_ma (r_next (by omega) hl2) ?_) | ((with_reducible refine callM_id ?_); refine callM_i (hd _ (by omega)) ?_) | ((with_reducible refine ecallM_id ?_); refine ecall_ma (hd _ (by omega)) ?_) | fail))
      refine ⟨(k, [x], .tip (y + 1), u, y + 1 + 1), ⟨by simp only; omega, hru, hfin, by simp only; omega, by simp, hlw3, rfl, by simp [Fn.c], .inr ⟨y + 1, by simp, rfl, ?_, by omega, by simp only; omega⟩⟩, by simp only; omega, rfl⟩
      simp (disch := omega) only [upd_same', upd_ne']
      rfl
    · subst htk
      have hk4 : ((nxt ms t).kind = 4) = False := eq_false (by rcases hc.2 with h | h; omega; exact h)
      have hl00 : (l.length = 0) = False := eq_false (by omega)
      (repeat' (first | simp -implicitDefEqProofs (disch := omega) only [go_sem, ↓reduceIte, Mk.c, ho1, ho2, ho3, ho4, hw, Fn.c, hk4, hl00] | (((first | with_reducible apply cnd_c | with_reducible apply grd_c | with_reducible apply pck_c) <;> intro wh <;> (try rewrite [wh]) <;> try simp only [wdw] at wh) <;> (try (revert wh; intro _)) <;> try (exfalso; omega)) | refine andi ?_ | ((with_reducible refine callM_id ?_); refine callM_i (r_next (by omega) hl2) ?_) | ((with_reducible refine ecallM_id ?_); refine ecall_ma (r_next (by omega) hl2) ?_) | ((with_reducible refine callM_id ?_); refine callM_i (hd _ (by omega)) ?_) | ((with_reducible refine ecallM_id ?_); refine ecall_ma (hd _ (by omega)) ?_) | fail))
      refine ⟨(k, l ++ [x], .tip w, u, y + 1), ⟨by simp only; omega, hru, hfin, by simp only; omega, by simp only [List.length_append, List.length_cons, List.length_nil]; omega, by simp only [List.length_append, List.length_cons, List.length_nil]; exact hlw3, rfl, by simp [Fn.c], .inr ⟨w, by simp, rfl, ?_, by omega, by simp only; omega⟩⟩, by simp only; omega, rfl⟩
      simp (disch := omega) only [upd_same', upd_ne']
      simp
  · have e : progL ms (k + 1) l t = (l, t) := by rw [progL, if_neg hc]
    rw [e] at hfin
    subst hfin
    by_cases hw : t.why = 0
    · have hk4 : ((nxt ms t).kind = 4) = True := eq_true (by
        rcases Classical.em ((nxt ms t).kind = 4) with h | h
        · exact h
        · exact absurd ⟨hw, .inr h⟩ hc)
      have hl00 : (l.length = 0) = False := eq_false (fun h => hc ⟨hw, .inl h⟩)
      (repeat' (first | simp -implicitDefEqProofs (disch := omega) only [go_sem, ↓reduceIte, Mk.c, ho1, ho2, ho3, hw, hk4, hl00] | (((first | with_reducible apply cnd_c | with_reducible apply grd_c | with_reducible apply pck_c) <;> intro wh <;> (try rewrite [wh]) <;> try simp only [wdw] at wh) <;> (try (revert wh; intro _)) <;> try (exfalso; omega)) | refine andi ?_ | ((with_reducible refine callM_id ?_); refine callM_i (r_next (by omega) hl2) ?_) | ((with_reducible refine ecallM_id ?_); refine ecall_ma (r_next (by omega) hl2) ?_) | fail))
      omega
    · (repeat' (first | simp -implicitDefEqProofs (disch := omega) only [go_sem, ↓reduceIte, Mk.c, ho1, ho2, ho3] | (((first | with_reducible apply cnd_c | with_reducible apply grd_c | with_reducible apply pck_c) <;> intro wh <;> (try rewrite [wh]) <;> try simp only [wdw] at wh) <;> (try (revert wh; intro _)) <;> try (exfalso; omega)) | refine andi ?_ | ((with_reducible refine callM_id ?_); refine callM_i (r_next (by omega) hl2) ?_) | ((with_reducible refine ecallM_id ?_); refine ecall_ma (r_next (by omega) hl2) ?_) | fail))
      omega
end
theorem marksF_ms {k : Tok} {T : List Int} {O : Nat → Mk × Bool} (hO : OneOk k T O) (hT : T.length ≤ 32768) : ((marksF O T (T.length + 1) 0 []).2 = -1 ∧ MsOk (marksF O T (T.length + 1) 0 []).1) ∨ (0 ≤ (marksF O T (T.length + 1) 0 []).2) := by
  obtain ⟨h1, h2⟩ := marksF_ok hO (T.length + 1) 0 [] (by omega) (by omega) (by simp) (by simp)
  by_cases h : (marksF O T (T.length + 1) 0 []).2 = -1
  · obtain ⟨l, e, hl, hk⟩ := h1 h
    exact .inl ⟨h, ⟨l, endM T, e, rfl, by omega, hk⟩⟩
  · exact .inr (h2 h).2
def limV : V := .agg [I 32768, I 32768, I 32768, I 32768]
theorem ref04_Wide : PS F_fathomref04_Wide [] limV := by
  (refine pspec' mixed w_fathomref04_Wide (by simp) (by first | rfl | simp [V.bd, bds, bdss]) fun _ => ?_; unfold c_fathomref04_Wide r_fathomref04_Wide)
  (repeat' (first | simp -implicitDefEqProofs (disch := omega) only [go_sem, ↓reduceIte] | (((first | with_reducible apply cnd_c | with_reducible apply grd_c | with_reducible apply pck_c) <;> intro wh <;> (try rewrite [wh]) <;> try simp only [wdw] at wh) <;> (try (revert wh; intro _)) <;> try (exfalso; omega)) | refine andi ?_ | fail))
  rfl
def GoodP (p : List Fn) : Prop := 0 < p.length ∧ ∀ f ∈ p, FOk f
theorem parse_ex (k : Tok) (T : List Int) (hT : T.length ≤ 100000000) : ∃ p w a, PS F_fathomref04_Parse [.sl k 1 (u8s T), limV] (.tup [progV p, .agg [I w, I a]]) ∧ (w = 0 → GoodP p) := by
  by_cases hlong : 32768 < T.length
  · refine ⟨[], 22, 32768, ?_, fun h => by omega⟩
    refine pspec' mixed w_fathomref04_Parse (by simp) (by simp [V.bd, bds, progV, bdss]) fun n => ?_
    unfold c_fathomref04_Parse r_fathomref04_Parse
    (repeat' (first | simp -implicitDefEqProofs (disch := omega) only [go_sem, ↓reduceIte, limV] | (((first | with_reducible apply cnd_c | with_reducible apply grd_c | with_reducible apply pck_c) <;> intro wh <;> (try rewrite [wh]) <;> try simp only [wdw] at wh) <;> (try (revert wh; intro _)) <;> try (exfalso; omega)) | refine andi ?_ | fail))
    rfl
  obtain ⟨O, hO⟩ := one_all k T hT
  have hM := marks_spec k T hT O hO
  have hMk := marksF_ms hO (by omega)
  generalize marksF O T (T.length + 1) 0 [] = R at *
  obtain ⟨ms, bad⟩ := R
  simp only at hM hMk
  rcases hMk with ⟨rfl, hms⟩ | hb
  · have hl0 : (⟨0, 0, 0, 0⟩ : Rs).at_ < ms.length := by
      obtain ⟨l, e, rfl, _⟩ := hms.ex
      simp
    have hp := fun n i hi => wk_prog hms ⟨0, 0, 0, 0⟩ ⟨hl0, by simp, by simp⟩ n i hi
    have hg := prog_law hms (ms.length + 1) [] ⟨0, 0, 0, 0⟩ hl0 (by have := mu_le hms ⟨0, 0, 0, 0⟩; omega)
    generalize progL ms (ms.length + 1) [] ⟨0, 0, 0, 0⟩ = D at *
    obtain ⟨p, s⟩ := D
    simp only at hp hg
    have hrd0 : rdO ms ⟨0, 0, 0, 0⟩ = .cells [.sl .no 4 (marksV ms), I 0, I 0, I 0, I 32768, I 32768, I 32768, I 32768, I 0] := rfl
    by_cases hw : s.why = 0
    · refine ⟨p, 0, 0, ?_, fun _ => ⟨(hg.2 hw).2, (hg.2 hw).1 (by simp)⟩⟩
      refine pspec' mixed w_fathomref04_Parse (by simp) (by simp [V.bd, bds, progV, bdss_map (Fn.bd 0)]) fun n => ?_
      unfold c_fathomref04_Parse r_fathomref04_Parse
      (repeat' (first | simp -implicitDefEqProofs (disch := omega) only [go_sem, ↓reduceIte, limV] | (((first | with_reducible apply cnd_c | with_reducible apply grd_c | with_reducible apply pck_c) <;> intro wh <;> (try rewrite [wh]) <;> try simp only [wdw] at wh) <;> (try (revert wh; intro _)) <;> try (exfalso; omega)) | refine andi ?_ | ((with_reducible refine callM_id ?_); refine callM_i hM ?_) | fail))
      refine ecall_m (hp _ _ (by omega)) ?_ (by omega) ?_
      · rw [hrd0, show min (max (32768 : Int) 0) 32768 = 32768 by decide]
        exact upd_same _ _ _
      (repeat' (first | simp -implicitDefEqProofs (disch := omega) only [go_sem, ↓reduceIte, hw] | (((first | with_reducible apply cnd_c | with_reducible apply grd_c | with_reducible apply pck_c) <;> intro wh <;> (try rewrite [wh]) <;> try simp only [wdw] at wh) <;> (try (revert wh; intro _)) <;> try (exfalso; omega)) | refine andi ?_ | fail))
      rfl
    · refine ⟨[], s.why, s.whr, ?_, fun h => absurd h hw⟩
      refine pspec' mixed w_fathomref04_Parse (by simp) (by simp [V.bd, bds, progV, bdss]) fun n => ?_
      unfold c_fathomref04_Parse r_fathomref04_Parse
      (repeat' (first | simp -implicitDefEqProofs (disch := omega) only [go_sem, ↓reduceIte, limV] | (((first | with_reducible apply cnd_c | with_reducible apply grd_c | with_reducible apply pck_c) <;> intro wh <;> (try rewrite [wh]) <;> try simp only [wdw] at wh) <;> (try (revert wh; intro _)) <;> try (exfalso; omega)) | refine andi ?_ | ((with_reducible refine callM_id ?_); refine callM_i hM ?_) | fail))
      refine ecall_m (hp _ _ (by omega)) ?_ (by omega) ?_
      · rw [hrd0, show min (max (32768 : Int) 0) 32768 = 32768 by decide]
        exact upd_same _ _ _
      have hw' : (s.why = 0) = False := eq_false hw
      (repeat' (first | simp -implicitDefEqProofs (disch := omega) only [go_sem, ↓reduceIte, hw', rdO] | (((first | with_reducible apply cnd_c | with_reducible apply grd_c | with_reducible apply pck_c) <;> intro wh <;> (try rewrite [wh]) <;> try simp only [wdw] at wh) <;> (try (revert wh; intro _)) <;> try (exfalso; omega)) | refine andi ?_ | fail))
      rfl
  · refine ⟨[], 20, bad, ?_, fun h => by omega⟩
    refine pspec' mixed w_fathomref04_Parse (by simp) (by simp [V.bd, bds, progV, bdss]) fun n => ?_
    unfold c_fathomref04_Parse r_fathomref04_Parse
    (repeat' (first | simp -implicitDefEqProofs (disch := omega) only [go_sem, ↓reduceIte, limV] | (((first | with_reducible apply cnd_c | with_reducible apply grd_c | with_reducible apply pck_c) <;> intro wh <;> (try rewrite [wh]) <;> try simp only [wdw] at wh) <;> (try (revert wh; intro _)) <;> try (exfalso; omega)) | refine andi ?_ | ((with_reducible refine callM_id ?_); refine callM_i hM ?_) | fail))
    rfl
end Go.Proofs.Fathom
set_option linter.unusedVariables false
set_option linter.unusedSimpArgs false
namespace Go.Proofs.Fathom
open Go Go.Proofs
attribute [local irreducible] PSpec CSpec
/-- A program that was read. -/
structure GoodR (p : List Fn) : Prop where
  pos : 0 < p.length
  len : p.length ≤ 40
  fn : ∀ f ∈ p, FOk f
  par : ∀ f ∈ p, f.params.length ≤ 4
theorem tyOk_top {t : Int} (h : tyOk t) : topE t = 0 := by
  have := h.1; have := h.2
  rcases (show t = 1 ∨ t = 2 ∨ t = 3 by omega) with rfl | rfl | rfl <;> rfl
theorem GoodR.good {p : List Fn} (h : GoodR p) : Good p := ⟨h.len, fun f hf => ⟨h.par f hf, tyOk_top (h.fn f hf).typ, fun t ht => by
  simp only [Fn.types, List.mem_map] at ht
  obtain ⟨q, hq, rfl⟩ := ht
  exact tyOk_top ((h.fn f hf).pars q hq)⟩⟩
theorem read_ex (k : Tok) (T : List Int) (hT : T.length ≤ 100000000) : ∃ p ok, PS F_fathomlaw19_read [.sl k 1 (u8s T)] (.tup [progV p, .bool ok]) ∧ (ok = true → GoodR p) := by
  obtain ⟨p, w, a, hP, hG⟩ := parse_ex k T hT
  by_cases hb : w = 0 ∧ p.length ≤ 40 ∧ T.length ≤ 8192 ∧ ∀ f ∈ p, f.params.length ≤ 4
  · refine ⟨p, true, ?_, fun _ => ⟨(hG hb.1).1, hb.2.1, (hG hb.1).2, hb.2.2.2⟩⟩
    obtain ⟨hw, hl, hTl, hpar⟩ := hb
    refine pspec' mixed w_fathomlaw19_read (by simp) (by simp [V.bd, bds, progV, bdss_map (Fn.bd 0)]) fun n => ?_
    unfold c_fathomlaw19_read r_fathomlaw19_read
    (repeat' (first | simp -implicitDefEqProofs (disch := omega) only [go_sem, ↓reduceIte, hw, progV] | (((first | with_reducible apply cnd_c | with_reducible apply grd_c | with_reducible apply pck_c) <;> intro wh <;> (try rewrite [wh]) <;> try simp only [wdw] at wh) <;> (try (revert wh; intro _)) <;> try (exfalso; omega)) | refine andi ?_ | ((with_reducible refine callM_id ?_); refine callM_i ref04_Wide ?_) | ((with_reducible refine callM_id ?_); refine callM_i hP ?_) | fail))
    refine loop_o (fun i : Nat => ofL [(2, .ptr n 0), (4, .ptr (n + 1) 0), (6, I i)]) (fun _ => n + 1 + 1 + 1) (fun i => p.length - i) (fun i ob => i ≤ p.length ∧ ob n = some (.cells [.sl .full 11 []]) ∧ ob (n + 1) = some (.cells [.sl .no 11 (p.map Fn.c)])) 0 rfl rfl ⟨Nat.zero_le _, ?_, ?_⟩ fun i ob hi => ?_
    · simp (disch := omega) only [upd_same', upd_ne']
    · simp (disch := omega) only [upd_same', upd_ne']
    · obtain ⟨hi, ho1, ho2⟩ := hi
      (simp -implicitDefEqProofs (disch := omega) only [go_sem, ↓reduceIte, ho1, ho2])
      ((first | with_reducible apply cnd_c | with_reducible apply grd_c | with_reducible apply pck_c) <;> intro h <;> (try rewrite [h]) <;> try simp only [wdw] at h)
      · (repeat' (first | simp -implicitDefEqProofs (disch := omega) only [go_sem, ↓reduceIte, ho1, ho2] | (((first | with_reducible apply cnd_c | with_reducible apply grd_c | with_reducible apply pck_c) <;> intro wh <;> (try rewrite [wh]) <;> try simp only [wdw] at wh) <;> (try (revert wh; intro _)) <;> try (exfalso; omega)) | refine andi ?_ | fail))
      · have hlt : i < p.length := by omega
        have hpi := hpar _ (List.getElem_mem hlt)
        (repeat' (first | simp -implicitDefEqProofs (disch := omega) only [go_sem, ↓reduceIte, getq hlt, Fn.c, ho1, ho2] | (((first | with_reducible apply cnd_c | with_reducible apply grd_c | with_reducible apply pck_c) <;> intro wh <;> (try rewrite [wh]) <;> try simp only [wdw] at wh) <;> (try (revert wh; intro _)) <;> try (exfalso; omega)) | refine andi ?_ | fail))
        exact ⟨i + 1, by omega, by omega, rfl⟩
  · refine ⟨p, false, ?_, fun h => by cases h⟩
    refine pspec' mixed w_fathomlaw19_read (by simp) (by simp [V.bd, bds, progV, bdss_map (Fn.bd 0)]) fun n => ?_
    unfold c_fathomlaw19_read r_fathomlaw19_read
    (repeat' (first | simp -implicitDefEqProofs (disch := omega) only [go_sem, ↓reduceIte, progV] | (((first | with_reducible apply cnd_c | with_reducible apply grd_c | with_reducible apply pck_c) <;> intro wh <;> (try rewrite [wh]) <;> try simp only [wdw] at wh) <;> (try (revert wh; intro _)) <;> try (exfalso; omega)) | refine andi ?_ | ((with_reducible refine callM_id ?_); refine callM_i ref04_Wide ?_) | ((with_reducible refine callM_id ?_); refine callM_i hP ?_) | fail))
    all_goals try rfl
    rename_i h1 h2 h3
    refine loop_o (fun i : Nat => ofL [(2, .ptr n 0), (4, .ptr (n + 1) 0), (6, I i)]) (fun _ => n + 1 + 1 + 1) (fun i => p.length - i) (fun i ob => i ≤ p.length ∧ ob n = some (.cells [.sl .full 11 []]) ∧ ob (n + 1) = some (.cells [.sl .no 11 (p.map Fn.c)]) ∧ ∀ j (h : j < p.length), j < i → p[j].params.length ≤ 4) 0 rfl rfl ⟨Nat.zero_le _, ?_, ?_, fun j h hj => by omega⟩ fun i ob hi => ?_
    · simp (disch := omega) only [upd_same', upd_ne']
    · simp (disch := omega) only [upd_same', upd_ne']
    · obtain ⟨hi, ho1, ho2, hall⟩ := hi
      (simp -implicitDefEqProofs (disch := omega) only [go_sem, ↓reduceIte, ho1, ho2])
      ((first | with_reducible apply cnd_c | with_reducible apply grd_c | with_reducible apply pck_c) <;> intro h <;> (try rewrite [h]) <;> try simp only [wdw] at h)
      · exfalso
        apply hb
        refine ⟨by omega, by omega, by omega, fun f hf => ?_⟩
        obtain ⟨j, hj, rfl⟩ := List.getElem_of_mem hf
        exact hall j hj (by omega)
      · have hlt : i < p.length := by omega
        (repeat' (first | simp -implicitDefEqProofs (disch := omega) only [go_sem, ↓reduceIte, getq hlt, Fn.c, ho1, ho2] | (((first | with_reducible apply cnd_c | with_reducible apply grd_c | with_reducible apply pck_c) <;> intro wh <;> (try rewrite [wh]) <;> try simp only [wdw] at wh) <;> (try (revert wh; intro _)) <;> try (exfalso; omega)) | refine andi ?_ | fail))
        · rename_i h5
          refine ⟨i + 1, ⟨by omega, fun j hj hji => ?_⟩, by omega, rfl⟩
          rcases Nat.lt_or_ge j i with h | h
          · exact hall j hj h
          · have : j = i := by omega
            subst this
            omega
end Go.Proofs.Fathom
