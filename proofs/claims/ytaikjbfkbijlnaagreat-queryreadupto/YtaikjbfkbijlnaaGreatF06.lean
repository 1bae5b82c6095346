/- A part of the proof of 'Rows.QueryReadUptoSaid': for every text and every seeds (of bulk at most 1048576 together) fathomlaw19.QueryRead returns true and its arguments read afterwards as before. -/
import Derived.Test.YtaikjbfkbijlnaaGreatF05
set_option linter.unusedVariables false
set_option linter.unusedSimpArgs false
namespace Go.Proofs.Fathom
open Go

section
variable {P : Program} {E : Env} {ρ : Opd → V} {ev : Operand → Value} {ob : Obs} {o : Oper}

/-- A slice's cells, as the machine reads them; nil and empty alike. -/
def Rd (w : World) (a : Option Addr) (vs : List Value) : Prop := vs ≠ [] → ∃ b o, a = some ⟨b, o, none⟩ ∧ ∀ j v, vs[j]? = some v → w.cell? ⟨b, o + j, none⟩ = some v
theorem Rd.of {a : Option Addr} {z : Nat} {xs : List (List V)} (h : xs ≠ [] → ∃ b o, a = some ⟨b, o, none⟩ ∧ ElemsAt E b o z xs) :
    ∃ vs, vs.length = xs.length * z ∧ VRs E xs.flatten vs ∧ AllOne vs ∧ (∀ c ∈ xs, c.length = z) ∧ Rd E.w a vs ∧ (∀ b o, a = some ⟨b, o, none⟩ → ∀ j, j < vs.length → E.F b (o + j)) := by
  by_cases hne : xs = []
  · subst hne
    exact ⟨[], by simp, by simp [VRs], (by intro u hu; cases hu), by simp, fun h => absurd rfl h, fun _ _ _ j hj => by simp at hj⟩
  · obtain ⟨b, o, rfl, he⟩ := h hne
    obtain ⟨vs, h1, h2, h3, h4⟩ := he.vals
    refine ⟨vs, h1, h2, h3, (ElemsAt_iff.1 he).1, fun _ => ⟨b, o, rfl, fun j v hj => (h4 j v hj).1⟩, fun b' o' e j hj => ?_⟩
    cases e
    exact (h4 j _ (List.getElem?_eq_getElem hj)).2
theorem firstCells_run {w : World} {a : Option Addr} {vs : List Value} (h : Rd w a vs) (size n len cap : Nat) (hl : vs.length = n * size) : (Builtin.firstCells size n (.slice a len cap)).run P w = .ok vs.toArray w := by
  by_cases hne : vs = []
  · subst hne
    cases a with
    | none => simp [Builtin.firstCells]
    | some a =>
      have h0 : n * size = 0 := by simpa using hl.symm
      simp [Builtin.firstCells, h0, loadCells, loadCellsFrom]
  · obtain ⟨b, o, rfl, hc⟩ := h hne
    exact run_firstCells_some w size n ⟨b, o, none⟩ len cap vs hl (fun j v hj => by rw [add_off]; exact hc j v hj)

theorem append_room {t ty e : TypeId} {inf : TypeInfo} {w : World} (ht : P.underlying t = some (.slice e)) (hi : P.info? e = some inf) {a : Option Addr} {n cap m : Nat} (hroom : n + m ≤ cap)
    {ya : Option Addr} {yc : Nat} {news : List Value} (hl : news.length = m * inf.size) (hy : Rd w ya news) (w' : World)
    (hst : (match a with | some a => (storeCells (a.add (n * inf.size)) news).run P w | none => .ok () w) = .ok () w') :
    (Builtin.append_ #[t, t] ty #[.slice a n cap, .slice ya m yc]).run P w = .ok (.slice a (n + m) cap) w' := by
  have hf := firstCells_run (P := P) hy inf.size m m yc hl
  cases a with
  | none =>
    simp only [Result.ok.injEq, true_and] at hst
    subst hst
    simp [Builtin.append_, run_underlying ht, sizeOf, typeInfo, hi, Builtin.lenOf, hroom, hf]
  | some a =>
    simp only at hst
    simp [Builtin.append_, run_underlying ht, sizeOf, typeInfo, hi, Builtin.lenOf, hroom, hf, hst]
theorem append_grow {t ty e : TypeId} {inf : TypeInfo} {zv : Value} {w : World} (ht : P.underlying t = some (.slice e)) (hi : P.info? e = some inf) (hz : inf.zero = some zv) {a : Option Addr} {n cap m : Nat} (hroom : ¬ n + m ≤ cap)
    {olds : List Value} (hlo : olds.length = n * inf.size) (ho : Rd w a olds)
    {ya : Option Addr} {yc : Nat} {news : List Value} (hl : news.length = m * inf.size) (hy : Rd w ya news) (hb : (n + m) * inf.bytes ≤ 140737488355328) (hpos : 0 < inf.bytes) :
    (Builtin.append_ #[t, t] ty #[.slice a n cap, .slice ya m yc]).run P w = .ok (.slice (some ⟨w.heap.size, 0, none⟩) (n + m) (grownCap w (n + m) cap e))
      (w.drew.alloc (.cells (olds.toArray ++ news.toArray ++ Builtin.zeroCells zv.cells (grownCap w (n + m) cap e - (n + m))) e)) := by
  have h63 : n + m ≤ 140737488355328 := Nat.le_trans (Nat.le_mul_of_pos_right _ hpos) hb
  have h63' : ¬ (9223372036854775807 < ((n : Int) + (m : Int))) := by omega
  have hfit := growslice_fits (need := n + m) (old := cap) (by omega) hb
  have h48' : ¬ (281474976710656 < Builtin.nextslicecap (n + m) cap * inf.bytes) := by omega
  have hf := firstCells_run (P := P) (w := w.drew) (a := ya) (vs := news) hy inf.size m m yc hl
  have hf2 := firstCells_run (P := P) (w := w.drew) (a := a) (vs := olds) ho inf.size n n cap hlo
  simp [Builtin.append_, run_underlying ht, sizeOf, typeInfo, zeroValue, hi, hz, Builtin.lenOf, hroom, h63', h48', Question.forced, hf, hf2, newRow, grownCap]
  congr 2
  apply Array.ext'
  simp

/-- Is there the right to append? -/
def Adm (E : Env) (i z n : Nat) (a : Option Addr) (cap : Nat) : Prop :=
  ((E.ι i = none ∨ E.ι i = some (none, n + 1)) ∧ cap = n) ∨
  (∃ b, E.ι i = some (some b, n + 1) ∧ a = some ⟨b, 0, none⟩ ∧ cap ≤ maxLen ∧ ∃ (cur : Array Value) (e : TypeId), E.w.heap[b]? = some (.cells cur e (0, 0)) ∧ cur.size = cap * z)

/-- append, all ways: the row that it leaves. -/
theorem append_core {t ty e : TypeId} {inf : TypeInfo} {zv : Value} (hw : E.wf) (ht : P.underlying t = some (.slice e)) (hi : P.info? e = some inf) (hz : inf.zero = some zv) (hzs : zv.cells.size = inf.size) (hpos : 0 < inf.bytes)
    {i n cap : Nat} {a : Option Addr} {olds : List Value} (hlo : olds.length = n * inf.size) (ho : Rd E.w a olds) (hold1 : AllOne olds) (hle : n ≤ cap) (hadm : Adm E i inf.size n a cap)
    {m : Nat} {ya : Option Addr} {yc : Nat} {news : List Value} (hl : news.length = m * inf.size) (hy : Rd E.w ya news) (hnew1 : AllOne news) (hb : (n + m) * inf.bytes ≤ 140737488355328)
    (fz : Nat → Prop) (hfz : ∀ b, E.ι i = some (some b, n + 1) → ∀ k, E.F b k → k < n * inf.size) :
    ∃ (v : Value) (E' : Env) (b' : Option Nat) (cap' : Nat) (a' : Option Addr), (Builtin.append_ #[t, t] ty #[.slice a n cap, .slice ya m yc]).run P E.w = .ok v E'.w ∧ v = .slice a' (n + m) cap' ∧ E.st E' i ∧ E'.ι i = some (b', n + m + 1) ∧
      n + m ≤ cap' ∧ Adm E' i inf.size (n + m) a' cap' ∧
      (match b' with
       | none => m = 0 ∧ a' = a ∧ E' = { E with ι := upd E.ι i (some (none, n + 1)) }
       | some b => a' = some ⟨b, 0, none⟩ ∧ (∃ (cur : Array Value) (e : TypeId), E'.w.heap[b]? = some (.cells cur e (0, 0)) ∧ cur.size = cap' * inf.size ∧ cur.toList.take ((n + m) * inf.size) = olds ++ news) ∧
          (∀ k, E'.F b k ↔ E.F b k ∨ (fz k))) := by
  have hn63 : n + m ≤ 140737488355328 := Nat.le_trans (Nat.le_mul_of_pos_right _ hpos) hb
  by_cases hroom : n + m ≤ cap
  · rcases hadm with ⟨hv, hcn⟩ | ⟨b, hib, rfl, hcm, cur, e', hh, hcs⟩
    · -- nothing is appended
      have hm : m = 0 := by omega
      subst hm
      have hne : news = [] := List.eq_nil_of_length_eq_zero (by simpa using hl)
      subst hne
      refine ⟨.slice a (n + 0) cap, { E with ι := upd E.ι i (some (none, n + 1)) }, none, cap, a, ?_, rfl, ?_, by simp [upd], hroom, .inl ⟨.inr (by simp [upd]), hcn⟩, rfl, rfl, rfl⟩
      · refine append_room ht hi hroom hl hy E.w ?_
        cases a <;> simp [storeCells]
      · refine ⟨⟨fun j g q hj => ?_, fun _ _ h => h, fun _ _ _ => rfl, fun _ h => ⟨h, rfl⟩, fun _ c _ h => ⟨c, h, rfl⟩⟩, ⟨hw.F, hw.M, hw.K⟩, fun j hj => by simp [upd, hj], fun _ _ _ => rfl, fun _ _ h => .inl h, fun _ h => .inl h, Nat.le_refl _, rfl, rfl, rfl, fun g q h => by simp [upd] at h⟩
        by_cases hji : j = i
        · subst hji
          rcases hv with hv | hv
          · rw [hv] at hj; cases hj
          · rw [hv] at hj
            cases hj
            exact ⟨none, n + 1, by simp [upd], Nat.le_refl _, fun _ => rfl, fun h => h⟩
        · exact ⟨g, q, by simp [upd, hji, hj], Nat.le_refl _, fun _ => rfl, fun h => h⟩
    · -- in place
      have hfit : n * inf.size + news.length ≤ cur.size := by
        rw [hl, hcs, ← Nat.add_mul]
        exact Nat.mul_le_mul_right _ hroom
      have hns : n * inf.size ≤ cur.toList.length := by rw [Array.length_toList]; omega
      have hst := run_storeCells_at P b (n * inf.size) e' news 0 cur E.w hh (by simpa using hfit) hnew1
      simp only [Nat.add_zero] at hst
      have hlen : (cur.toList.take (n * inf.size) ++ news ++ cur.toList.drop (n * inf.size + news.length)).toArray.size = cur.size := by
        simp only [List.size_toArray, List.length_append, List.length_take, List.length_drop, Array.length_toList]
        omega
      have holds : cur.toList.take (n * inf.size) = olds := by
        by_cases hne : olds = []
        · subst hne
          have h0 : n * inf.size = 0 := by simpa using hlo.symm
          rw [h0]
          simp
        · obtain ⟨g, q, hga, hc⟩ := ho hne
          simp only [Option.some.injEq, Addr.mk.injEq] at hga
          obtain ⟨rfl, rfl, _⟩ := hga
          apply List.ext_getElem?
          intro k
          rw [List.getElem?_take]
          split
          · rename_i hk
            have h1 := hc k (olds[k]'(by omega)) (by simp)
            rw [Nat.zero_add, cell_of_row E.w b k cur e' (0, 0) hh] at h1
            rw [show olds[k]? = some (olds[k]'(by omega)) from List.getElem?_eq_getElem _]
            simpa using h1
          · rename_i hk
            rw [List.getElem?_eq_none (by omega)]
      have hset := Env.st_set hw hh hlen hib (show n + 1 ≤ n + m + 1 by omega) (fun h => by omega) fz (fun k hk => by
        have hkn := hfz b hib k hk
        have : k < (cur.toList.take (n * inf.size)).length := by
          rw [List.length_take]
          omega
        simp only [List.getElem?_toArray]
        rw [List.append_assoc, List.getElem?_append_left this, List.getElem?_take, if_pos hkn]
        simp)
      refine ⟨_, _, some b, cap, some ⟨b, 0, none⟩, append_room ht hi hroom hl hy (E.w.setRow b (cur.toList.take (n * inf.size) ++ news ++ cur.toList.drop (n * inf.size + news.length)).toArray) ?_, rfl, hset, by simp [upd], hroom, .inr ⟨b, by simp [upd], rfl, hcm, _, e', setRow_heap E.w b cur _ e' (0, 0) hh, hlen.trans hcs⟩, rfl, ⟨_, e', setRow_heap E.w b cur _ e' (0, 0) hh, hlen.trans hcs, ?_⟩, fun k => ?_⟩
      · simp only [add_off, Nat.zero_add]
        exact hst
      · simp only
        rw [List.take_left' (by
          rw [List.length_append, List.length_take, hl, Nat.add_mul]
          omega), holds]
      · simp
  · -- a new row
    have hrun := append_grow (P := P) (ty := ty) (yc := yc) ht hi hz hroom hlo ho hl hy hb hpos
    have hge := grownCap_ge E.w (n + m) cap e
    have hcm : grownCap E.w (n + m) cap e ≤ maxLen := grownCap_le_maxLen E.w (n + m) cap e (by unfold maxLen; omega)
    have hιlt : ∀ b q, E.ι i = some (b, q) → q < n + m + 1 ∧ q ≠ 0 := by
      intro b q hq
      rcases hadm with ⟨hv | hv, _⟩ | ⟨b', hv, _⟩
      · rw [hv] at hq; cases hq
      · rw [hv] at hq; cases hq; omega
      · rw [hv] at hq; cases hq; omega
    have hw' : Env.wf { E with w := E.w.drew } := ⟨hw.F, hw.M, hw.K⟩
    have hst0 := Env.st_mk1 (E := { E with w := E.w.drew }) hw' (.cells (olds.toArray ++ news.toArray ++ Builtin.zeroCells zv.cells (grownCap E.w (n + m) cap e - (n + m))) e) (i := i) (n := n + m + 1) fz hιlt
    have hst : E.st (Env.mk1 { E with w := E.w.drew } (.cells (olds.toArray ++ news.toArray ++ Builtin.zeroCells zv.cells (grownCap E.w (n + m) cap e - (n + m))) e) i (n + m + 1) fz) i :=
      ⟨⟨hst0.le.ι, hst0.le.F, hst0.le.cell, hst0.le.M, hst0.le.shape⟩, hst0.wf, hst0.ι, hst0.block, hst0.F, hst0.M, hst0.size, hst0.os, hst0.tape, hst0.output, hst0.new⟩
    have hsize : (olds.toArray ++ news.toArray ++ Builtin.zeroCells zv.cells (grownCap E.w (n + m) cap e - (n + m))).size = grownCap E.w (n + m) cap e * inf.size := by
      simp only [Array.size_append, List.size_toArray, size_zeroCells, hzs, hlo, hl, ← Nat.add_mul]
      congr 1
      omega
    refine ⟨_, _, some E.w.heap.size, grownCap E.w (n + m) cap e, some ⟨E.w.heap.size, 0, none⟩, hrun, rfl, hst, by simp [Env.mk1, upd], hge, .inr ⟨E.w.heap.size, by simp [Env.mk1, upd], rfl, hcm, _, e, heap_new _ _, hsize⟩, rfl, ⟨_, e, heap_new _ _, hsize, ?_⟩, fun k => ?_⟩
    · simp only [Array.toList_append]
      rw [List.take_left' (by simp [hlo, hl, Nat.add_mul])]
    · simp [Env.mk1]
/-- The right to append that a state tells of. -/
theorem adm_tip (hs : SOk E ob) {i z n : Nat} {a : Option Addr} {cap : Nat} (hob : ob i = some (.tip z n)) (ht : TokOk E (.tip i) a n cap z) : Adm E i z n a cap ∧ ∀ b, E.ι i = some (some b, n + 1) → ∀ k, E.F b k → k < n * z := by
  obtain ⟨b, hi, hob2⟩ := hs.ok _ _ hob
  obtain ⟨b', n', hi', hle, hm⟩ := ht
  rw [hi] at hi'
  simp only [Option.some.injEq, Prod.mk.injEq, Nat.add_right_cancel_iff] at hi'
  obtain ⟨rfl, rfl⟩ := hi'
  have hm := hm rfl
  cases b with
  | none => exact ⟨.inl ⟨.inr hi, hm⟩, fun b h => by rw [hi] at h; cases h⟩
  | some b =>
    obtain ⟨ha, hcm, cur, e, hh, hcs⟩ := hm
    obtain ⟨cur', e', hh', hf⟩ := hob2
    exact ⟨.inr ⟨b, hi, ha, hcm, cur, e, hh, hcs⟩, fun b' h => by rw [hi] at h; cases h; exact hf⟩
theorem ElemsAt.of {E : Env} {b o z : Nat} {xs : List (List V)} {vs : List Value} (hz : ∀ c ∈ xs, c.length = z) (h : VRs E xs.flatten vs) (h1 : AllOne vs) (hc : ∀ j v, vs[j]? = some v → E.w.cell? ⟨b, o + j, none⟩ = some v ∧ E.F b (o + j)) : ElemsAt E b o z xs :=
  ElemsAt_iff.2 ⟨hz, CellsAt_iff.2 ⟨vs, h, h1, hc⟩⟩
theorem chk_app {z by_ : Nat} {x y : Opd} (hc : chkEOp P o.op (.app z by_ x y) = true) : ∃ p q t e inf zv, o.op = .call { callee := .builtin .append, args := #[p, q], argTypes := #[t, t] } ∧ chkOpd p x = true ∧ chkOpd q y = true ∧
    P.underlying t = some (.slice e) ∧ P.info? e = some inf ∧ inf.size = z ∧ inf.bytes = by_ ∧ inf.zero = some zv ∧ zv.cells.size = inf.size ∧ 0 < inf.bytes := by
  simp only [chkEOp] at hc
  split at hc
  · rename_i as ts he
    simp only [Bool.and_eq_true] at hc
    obtain ⟨h1, h2⟩ := hc
    split at h2
    · rename_i t u hts
      simp only [Bool.and_eq_true, beq_iff_eq] at h2
      obtain ⟨rfl, h2⟩ := h2
      split at h2
      · rename_i e hel
        split at h2
        · rename_i inf hinf
          simp only [Bool.and_eq_true, beq_iff_eq, decide_eq_true_eq] at h2
          obtain ⟨⟨⟨h3, h4⟩, h5⟩, h6⟩ := h2
          split at h5
          · rename_i zv hzv
            obtain ⟨as⟩ := as
            obtain ⟨ts⟩ := ts
            simp only at hts h1
            subst hts
            cases as with
            | nil => simp [chkOpds] at h1
            | cons p as =>
              cases as with
              | nil => simp [chkOpds] at h1
              | cons q as =>
                cases as with
                | cons _ _ => simp [chkOpds] at h1
                | nil =>
                  simp only [chkOpds, Bool.and_eq_true, and_true] at h1
                  exact ⟨p, q, t, e, inf, zv, he, h1.1, h1.2, elemT_spec hel, hinf, h3, h4, hzv, by simpa [h3] using h5, by omega⟩
          · cases h5
        · cases h2
      · cases h2
    · cases h2
  · cases hc
theorem ae_app {z by_ : Nat} {x y : Opd} {i : Nat} {tk tk' : Tok} {z'' : Nat} {xs ys : List (List V)} (hw : E.wf) (hs : SOk E ob) (hev : EvOk E ρ ev) (hc : chkEOp P o.op (.app z by_ x y) = true)
    (hx : ρ x = .sl tk z xs) (hy : ρ y = .sl tk' z'' ys) (hz'' : z'' = z ∨ ys = []) (hb : (xs.length + ys.length) * by_ ≤ 140737488355328)
    (htk : (tk = .full ∧ E.ι i = none) ∨ (tk = .tip i ∧ ob i = some (.tip z xs.length))) :
    ERes P E i (.tip z (xs.length + ys.length)) (.sl (.tip i) z (xs ++ ys)) ((execOp ev o).run P E.w) := by
  obtain ⟨p, q, t, e, inf, zv, he, h1, h2, ht, hinf, rfl, rfl, hzv, hzs, hpos⟩ := chk_app hc
  have hxv := hev _ _ h1
  have hyv := hev _ _ h2
  rw [hx] at hxv
  rw [hy] at hyv
  simp only [VR] at hxv hyv
  obtain ⟨a, n, cap, hpv, rfl, hle, hxe, htok⟩ := hxv
  obtain ⟨ya, m, yc, hqv, rfl, hle2, hye, _⟩ := hyv
  obtain ⟨olds, ho1, ho2, ho3, ho4, ho5, ho6⟩ := Rd.of hxe
  obtain ⟨news, hn1, hn2, hn3, hn4, hn5, hn6⟩ := Rd.of hye
  have hnl : news.length = ys.length * inf.size := by
    rcases hz'' with h | h
    · rw [← h]; exact hn1
    · subst h; simpa using hn1
  have hyz : ∀ c ∈ ys, c.length = inf.size := by
    rcases hz'' with h | h
    · rw [← h]; exact hn4
    · subst h; simp
  have hadm : Adm E i inf.size xs.length a cap ∧ ∀ b, E.ι i = some (some b, xs.length + 1) → ∀ k, E.F b k → k < xs.length * inf.size := by
    rcases htk with ⟨rfl, hi⟩ | ⟨rfl, hob⟩
    · exact ⟨.inl ⟨.inl hi, htok⟩, fun b h => by rw [hi] at h; cases h⟩
    · exact adm_tip hs hob htok
  obtain ⟨v, E', b', cap', a', hrun, rfl, hst, hιi, hcap', hadm', hreal⟩ := append_core (P := P) (ty := o.type) (yc := yc) hw ht hinf hzv hzs hpos ho1 ho5 ho3 hle hadm.1 hnl hn5 hn3 hb
    (fun k => k < (xs.length + ys.length) * inf.size) hadm.2
  refine ⟨E', hst, ?_, .inl ⟨.slice a' (xs.length + ys.length) cap', ?_, ?_⟩⟩
  · refine ⟨b', hιi, ?_⟩
    cases b' with
    | none => trivial
    | some b =>
      obtain ⟨ha, ⟨cur, e', hh, _, _⟩, hF⟩ := hreal
      refine ⟨cur, e', hh, fun k hk => ?_⟩
      rcases (hF k).1 hk with h | h
      · -- an elder frozen cell of this block
        by_cases hold : ∃ q, E.ι i = some (some b, q)
        · obtain ⟨q, hq⟩ := hold
          rcases hadm.1 with ⟨hv, _⟩ | ⟨b2, hv, _⟩
          · rcases hv with hv | hv <;> (rw [hv] at hq; cases hq)
          · rw [hq] at hv
            cases hv
            have := hadm.2 _ hq k h
            rw [Nat.add_mul]
            omega
        · have := hw.F b k h
          rcases hst.new b _ hιi with h3 | h3
          · omega
          · exact absurd h3 hold
      · exact h
  · simp only [VR]
    refine ⟨a', _, cap', rfl, by simp, hcap', fun hne => ?_, b', xs.length + ys.length, hιi, Nat.le_refl _, fun _ => ?_⟩
    · cases b' with
      | none =>
        obtain ⟨hm0, rfl, rfl⟩ := hreal
        have : ys = [] := List.eq_nil_of_length_eq_zero hm0
        subst this
        obtain ⟨b, o', ha, hel⟩ := hxe (by simpa using hne)
        exact ⟨b, o', ha, by simpa using hel.mono hst.le⟩
      | some b =>
        obtain ⟨ha, ⟨cur, e', hh, _, htake⟩, hF⟩ := hreal
        refine ⟨b, 0, ha, ElemsAt.of ?_ (by rw [List.flatten_append]; exact (ho2.append hn2).mono hst.le) ?_ fun j u hu => ?_⟩
        · intro c hc
          rcases List.mem_append.1 hc with h | h
          · exact ho4 c h
          · exact hyz c h
        · intro u hu
          rcases List.mem_append.1 hu with h | h
          · exact ho3 u h
          · exact hn3 u h
        · have hj : j < (xs.length + ys.length) * inf.size := by
            have := (List.getElem?_eq_some_iff.1 hu).1
            rw [List.length_append, ho1, hnl, ← Nat.add_mul] at this
            exact this
          rw [Nat.zero_add, cell_of_row E'.w b j cur e' (0, 0) hh]
          refine ⟨?_, (hF j).2 (.inr hj)⟩
          rw [← htake, List.getElem?_take, if_pos hj] at hu
          simpa using hu
    · cases b' with
      | none => 
        rcases hadm' with ⟨_, h⟩ | ⟨b2, h, _⟩
        · exact h
        · rw [hιi] at h; cases h
      | some b =>
        rcases hadm' with ⟨h | h, _⟩ | ⟨b2, h, h3, h4, h5⟩
        · rw [hιi] at h; cases h
        · rw [hιi] at h; cases h
        · rw [hιi] at h
          cases h
          exact ⟨h3, h4, h5⟩
  · simp [execOp, he, resolve, invoke, builtin, hpv, hqv, hrun]

theorem chk_appr {z by_ : Nat} {x y : Opd} (hc : chkEOp P o.op (.appr z by_ x y) = true) : chkEOp P o.op (.app z by_ x y) = true := hc
theorem ae_appr {z by_ : Nat} {x y : Opd} {i n : Nat} {tk' : Tok} {z'' : Nat} {xs ys : List (List V)} (hw : E.wf) (hs : SOk E ob) (hev : EvOk E ρ ev) (hc : chkEOp P o.op (.appr z by_ x y) = true)
    (hx : ρ x = .row i n z 0 n) (hy : ρ y = .sl tk' z'' ys) (hz'' : z'' = z ∨ ys = []) (hb : (n + ys.length) * by_ ≤ 140737488355328)
    (hob : ob i = some (.row z xs)) (hn : xs.length = n) :
    ERes P E i (.row z (xs ++ ys)) (.row i (n + ys.length) z 0 (n + ys.length)) ((execOp ev o).run P E.w) := by
  obtain ⟨p, q, t, e, inf, zv, he, h1, h2, ht, hinf, rfl, rfl, hzv, hzs, hpos⟩ := chk_app (chk_appr hc)
  have hxv := hev _ _ h1
  have hyv := hev _ _ h2
  rw [hx] at hxv
  rw [hy] at hyv
  simp only [VR] at hxv hyv
  obtain ⟨b0, hi0, hlive⟩ := hxv.live hs ⟨xs, hob, hn⟩
  obtain ⟨ya, m, yc, hqv, rfl, hle2, hye, _⟩ := hyv
  obtain ⟨news, hn1, hn2, hn3, hn4, hn5, hn6⟩ := Rd.of hye
  have hnl : news.length = ys.length * inf.size := by
    rcases hz'' with h | h
    · rw [← h]; exact hn1
    · subst h; simpa using hn1
  have hyz : ∀ c ∈ ys, c.length = inf.size := by
    rcases hz'' with h | h
    · rw [← h]; exact hn4
    · subst h; simp
  subst hn
  obtain ⟨b1, hi1, hxz, hreal0⟩ := hs.ok _ _ hob
  rw [hi0] at hi1
  simp only [Option.some.injEq, Prod.mk.injEq, and_true] at hi1
  subst hi1
  -- the elder cells
  have hold : ∃ (a : Option Addr) (cap : Nat) (olds : List Value), ev p = .slice a xs.length cap ∧ xs.length ≤ cap ∧ olds.length = xs.length * inf.size ∧ Rd E.w a olds ∧ AllOne olds ∧ VRs E xs.flatten olds ∧ Adm E i inf.size xs.length a cap ∧
      (∀ b, E.ι i = some (some b, xs.length + 1) → ∀ k, ¬ E.F b k) := by
    cases b0 with
    | none =>
      obtain ⟨hl0, _, a, hv⟩ := hlive
      have hx0 : xs = [] := hreal0
      subst hx0
      exact ⟨a, 0, [], hv, Nat.le_refl _, by simp, fun h => absurd rfl h, (by intro u hu; cases hu), by simp [VRs], .inl ⟨.inr hi0, rfl⟩, fun b h => by rw [hi0] at h; cases h⟩
    | some b =>
      obtain ⟨cap, hv, hle, _, hcm, cur', e2, hh', hcs⟩ := hlive
      obtain ⟨cur, e', hh, hsz, hone, hr, hnf⟩ := hreal0
      have hce : cur = cur' := by
        rw [hh] at hh'
        cases hh'
        rfl
      subst hce
      refine ⟨some ⟨b, 0, none⟩, cap, cur.toList.take (xs.length * inf.size), by rw [hv, Nat.zero_mul], hle, by rw [List.length_take, Nat.min_eq_left (by simpa using hsz)], fun _ => ⟨b, 0, rfl, fun j u hu => ?_⟩, hone, hr,
        .inr ⟨b, hi0, rfl, hcm, cur, e', hh, by rw [hcs, Nat.zero_add]⟩, fun b' h => by rw [hi0] at h; cases h; exact hnf⟩
      rw [Nat.zero_add, cell_of_row E.w b j cur e' (0, 0) hh]
      rw [List.getElem?_take] at hu
      split at hu
      · simpa using hu
      · cases hu
  obtain ⟨a, cap, olds, hpv, hle, ho1, ho5, ho3, ho2, hadm, hnf⟩ := hold
  obtain ⟨v, E', b', cap', a', hrun, rfl, hst, hιi, hcap', hadm', hreal⟩ := append_core (P := P) (ty := o.type) (yc := yc) hw ht hinf hzv hzs hpos ho1 ho5 ho3 hle hadm hnl hn5 hn3 hb
    (fun _ => False) (fun b h k hk => absurd hk (hnf b h k))
  refine ⟨E', hst, ?_, .inl ⟨.slice a' (xs.length + ys.length) cap', ?_, ?_⟩⟩
  · refine ⟨b', by rw [hιi, List.length_append], ?_, ?_⟩
    · intro c hc
      rcases List.mem_append.1 hc with h | h
      · exact hxz c h
      · exact hyz c h
    cases b' with
    | none =>
      obtain ⟨hm0, rfl, rfl⟩ := hreal
      have h0 : ys = [] := List.eq_nil_of_length_eq_zero hm0
      subst h0
      cases b0 with
      | none =>
        have hx0 : xs = [] := hreal0
        rw [hx0]
        rfl
      | some b =>
        exfalso
        obtain ⟨b2, n2, h3, h4, h5, _⟩ := hst.le.ι i (some b) _ hi0
        rw [hιi] at h3
        cases h3
        have := h5 rfl
        cases this
    | some b =>
      obtain ⟨ha, ⟨cur, e', hh, hcs, htake⟩, hF⟩ := hreal
      have hlen : (olds ++ news).length = (xs.length + ys.length) * inf.size := by rw [List.length_append, ho1, hnl, Nat.add_mul]
      refine ⟨cur, e', hh, ?_, ?_, ?_, fun k hk => ?_⟩
      · rw [List.length_append, hcs]
        exact Nat.mul_le_mul_right _ hcap'
      · rw [List.length_append, htake]
        intro u hu
        rcases List.mem_append.1 hu with h | h
        · exact ho3 u h
        · exact hn3 u h
      · rw [List.length_append, htake, List.flatten_append]
        exact (ho2.append hn2).mono hst.le
      · rcases (hF k).1 hk with h | h
        · by_cases holdb : ∃ q, E.ι i = some (some b, q)
          · obtain ⟨q, hq⟩ := holdb
            rw [hi0] at hq
            cases hq
            exact hnf b hi0 k h
          · have := hw.F b k h
            rcases hst.new b _ hιi with h3 | h3
            · omega
            · exact holdb h3
        · exact h
  · simp only [VR, RowOk]
    refine ⟨⟨_, _, _, rfl⟩, b', xs.length + ys.length, hιi, Nat.le_refl _, fun _ => ?_⟩
    cases b' with
    | none =>
      obtain ⟨hm0, rfl, rfl⟩ := hreal
      cases b0 with
      | none =>
        have hx0 : xs = [] := hreal0
        subst hx0
        rcases hadm' with ⟨_, h⟩ | ⟨b2, h, _⟩
        · have h0 : cap' = 0 := by simpa [hm0] using h
          refine ⟨by simp [hm0], by simp [hm0], a', ?_⟩
          simp [hm0, h0]
        · rw [hιi] at h; cases h
      | some b =>
        exfalso
        obtain ⟨b2, n2, h3, h4, h5, _⟩ := hst.le.ι i (some b) _ hi0
        rw [hιi] at h3
        cases h3
        have := h5 (by omega)
        cases this
    | some b =>
      obtain ⟨ha, ⟨cur, e', hh, hcs, htake⟩, hF⟩ := hreal
      rcases hadm' with ⟨h | h, _⟩ | ⟨b2, h, h3, h4, h5⟩
      · rw [hιi] at h; cases h
      · rw [hιi] at h; cases h
      · exact ⟨cap', by rw [ha, Nat.zero_mul], hcap', by omega, h4, cur, e', hh, by rw [hcs, Nat.zero_add]⟩
  · simp [execOp, he, resolve, invoke, builtin, hpv, hqv, hrun]
theorem chk_appn {z by_ : Nat} {x y : Opd} (hc : chkEOp P o.op (.appn z by_ x y) = true) : chkEOp P o.op (.app z by_ x y) = true := hc
theorem ae_appn {z by_ : Nat} {x y : Opd} {i : Nat} {tk' : Tok} {z' z'' : Nat} {ys : List (List V)} (hw : E.wf) (hnone : E.ι i = none) (hev : EvOk E ρ ev) (hc : chkEOp P o.op (.appn z by_ x y) = true)
    (hx : ρ x = .sl .full z' []) (hy : ρ y = .sl tk' z'' ys) (hz'' : z'' = z ∨ ys = []) (hb : ys.length * by_ ≤ 140737488355328) :
    ERes P E i (.row z ys) (.row i ys.length z 0 ys.length) ((execOp ev o).run P E.w) := by
  obtain ⟨p, q, t, e, inf, zv, he, h1, h2, ht, hinf, rfl, rfl, hzv, hzs, hpos⟩ := chk_app (chk_appn hc)
  have hxv := hev _ _ h1
  have hyv := hev _ _ h2
  rw [hx] at hxv
  rw [hy] at hyv
  simp only [VR] at hxv hyv
  obtain ⟨a, n, cap, hpv, rfl, hle, _, htok⟩ := hxv
  have hcap0 : cap = 0 := htok
  subst hcap0
  obtain ⟨ya, m, yc, hqv, rfl, hle2, hye, _⟩ := hyv
  obtain ⟨news, hn1, hn2, hn3, hn4, hn5, hn6⟩ := Rd.of hye
  have hnl : news.length = ys.length * inf.size := by
    rcases hz'' with h | h
    · rw [← h]; exact hn1
    · subst h; simpa using hn1
  have hyz : ∀ c ∈ ys, c.length = inf.size := by
    rcases hz'' with h | h
    · rw [← h]; exact hn4
    · subst h; simp
  obtain ⟨v, E', b', cap', a', hrun, rfl, hst, hιi, hcap', hadm', hreal⟩ := append_core (P := P) (ty := o.type) (yc := yc) (n := 0) (cap := 0) (a := a) (olds := []) hw ht hinf hzv hzs hpos (by simp) (fun h => absurd rfl h) (by intro u hu; cases hu) (Nat.le_refl _) (.inl ⟨.inl hnone, rfl⟩) hnl hn5 hn3 (by rw [Nat.zero_add]; exact hb)
    (fun _ => False) (fun b h k hk => by rw [hnone] at h; cases h)
  refine ⟨E', hst, ?_, .inl ⟨.slice a' (0 + ys.length) cap', ?_, ?_⟩⟩
  · refine ⟨b', by rw [hιi, Nat.zero_add], hyz, ?_⟩
    cases b' with
    | none =>
      obtain ⟨hm0, rfl, rfl⟩ := hreal
      exact List.eq_nil_of_length_eq_zero hm0
    | some b =>
      obtain ⟨ha, ⟨cur, e', hh, hcs, htake⟩, hF⟩ := hreal
      rw [Nat.zero_add] at htake hcap'
      rw [List.nil_append] at htake
      refine ⟨cur, e', hh, ?_, ?_, ?_, fun k hk => ?_⟩
      · rw [hcs]
        exact Nat.mul_le_mul_right _ hcap'
      · rw [htake]
        exact hn3
      · rw [htake]
        exact hn2.mono hst.le
      · rcases (hF k).1 hk with h | h
        · have := hw.F b k h
          rcases hst.new b _ hιi with h3 | ⟨q, h3⟩
          · omega
          · rw [hnone] at h3; cases h3
        · exact h
  · simp only [VR, RowOk]
    refine ⟨⟨_, _, _, rfl⟩, b', ys.length, by rw [hιi, Nat.zero_add], Nat.le_refl _, fun _ => ?_⟩
    cases b' with
    | none =>
      obtain ⟨hm0, rfl, rfl⟩ := hreal
      rcases hadm' with ⟨_, h⟩ | ⟨b2, h, _⟩
      · have h0 : cap' = 0 := by simpa [hm0] using h
        refine ⟨by simp [hm0], by simp [hm0], a', ?_⟩
        simp [hm0, h0]
      · rw [hιi] at h; cases h
    | some b =>
      obtain ⟨ha, ⟨cur, e', hh, hcs, htake⟩, hF⟩ := hreal
      rcases hadm' with ⟨h | h, _⟩ | ⟨b2, h, h3, h4, h5⟩
      · rw [hιi] at h; cases h
      · rw [hιi] at h; cases h
      · rw [Nat.zero_add] at hcap' ⊢
        exact ⟨cap', by rw [ha, Nat.zero_mul], hcap', by omega, h4, cur, e', hh, by rw [hcs, Nat.zero_add]⟩
  · simp [execOp, he, resolve, invoke, builtin, hpv, hqv, hrun]
end
end Go.Proofs.Fathom
