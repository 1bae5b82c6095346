/- A part of the proof of 'Rows.QueryReadUptoSaid': for every text and every seeds (of bulk at most 1048576 together) fathomlaw19.QueryRead returns true and its arguments read afterwards as before. -/
import Derived.Test.YtaikjbfkbijlnaaGreatF17
import Derived.Test.YtaikjbfkbijlnaaGreatRows
import Derived.WalkKit
import Derived.ProofKit
import Derived.JoinedCond
import Derived.ReadAgain
import Derived.ChangeSlices
import Derived.Below
import Derived.OpenShut
set_option linter.unusedVariables false
namespace Go.Proofs.Fathom
open Go Go.Proofs Go.ChangeShapes Go.WideShapes Go.ChangeAt Go.RowKit
/-! ### From what an argument reads as to what the walk speaks of -/
def envOf (W : World) : Env := { ι := fun _ => none, F := fun b _ => b < W.heap.size, M := fun _ => False, w := W }
theorem envOf_wf (W : World) : (envOf W).wf := ⟨fun _ _ h => h, fun _ h => h.elim, fun _ h => h.elim⟩
section
variable {H : Type} {enc : TypeId × Value → H} {P : Program}
/-- Of a call that writes nothing that was there: the arguments read again as they did. -/
theorem post_below {f : Func} {s : ChangeSpec} {apart fresh handsOn again : Bool} {W W' : World} {args : Array Value} {v : Value} {ds : List (DataW H)} {before : List MemPlace} (K : Kids P (· < P.types.size)) (hz : ∀ t e, t < P.types.size → P.underlying t = some (.slice e) → 0 < P.cellsOf e)
    (hts : ∀ t ∈ f.params.toList, t < P.types.size) (hvs : s.vars = []) (hW : DataW.Whole enc P f.params.toList s.vars apart W args.toList ds [] before) (hB : Below W.heap.size W W')
    (hres : ∀ (b : Nat) (sp : Nat → Bool) (hd : Bool), DataW.TrodAll enc P W' b sp hd f.resultTypes.toList (v.resultList f.resultTypes.size) (s.fn H (ds ++ [])).results [])
    (hargs : (s.fn H (ds ++ [])).args = ds) (hvars : (s.fn H (ds ++ [])).vars = [])
    (hok : ∀ (j : Nat) (t : TypeId) (r : Value), f.resultTypes[j]? = some t → (v.resultList f.resultTypes.size)[j]? = some r → Value.okWide P W' .any 0 t r) :
    s.post enc P f apart fresh handsOn again W args v W' := by
  have hlt := hW.lt
  have hW0 := hW
  obtain ⟨p, q, hA, hV, rfl, hzz, hn⟩ := hW0
  have hV0 := hV
  rw [hvs] at hV0
  obtain ⟨_, rfl⟩ := trodVars_none hV0
  rw [List.append_nil] at hzz hn hlt
  have carry : ∀ {ts : List TypeId} {vs : List Value} {ds : List (DataW H)} {p : List MemPlace}, (∀ x ∈ p, x.block < W.heap.size) → DataW.TrodAll enc P W 0 (fun _ => true) true ts vs ds p → DataW.TrodAll enc P W' 0 (fun _ => true) true ts vs ds p := by
    intro ts
    induction ts with
    | nil =>
      intro vs ds p _ h
      obtain ⟨rfl, rfl, rfl⟩ := trodAll_nil h
      exact trodAll_mk0
    | cons t ts ih =>
      intro vs ds p hp h
      obtain ⟨v, vs1, d, ds1, a, b, rfl, rfl, rfl, h1, h2⟩ := trodAll_cons h
      obtain ⟨n, hn⟩ := h1
      exact ⟨a, b, ⟨n, DataW.trod_carry n _ _ _ hn fun x hx => hB.same (hp x (List.mem_append_left _ hx))⟩, ih (fun x hx => hp x (List.mem_append_right _ hx)) h2, rfl⟩
  have hA' := carry (fun x hx => hlt x hx) hA
  have hold : ∀ x ∈ p, (fun b => decide (b < W.heap.size)) x.block = true := fun x hx => by simpa using hlt x hx
  have hvv : ∀ sp : Nat → Bool, DataW.TrodVars enc P W' sp s.vars (s.fn H (ds ++ [])).vars [] := fun sp => by
    rw [hvs, hvars]
    exact rfl
  refine ⟨ds, [], p ++ [], [], p, [], hW, hres _ _ _, ?_, hvv _, World.keptBut_mono (fun x hx => ⟨by simpa using hx, .inr (.inl hx)⟩) (hB.frame (· ∈ p)), fun _ => ?_⟩
  · rw [hargs]
    exact DataW.TrodAll.respare K hz hts hA' hold
  · refine ⟨hok, _, _, ([] ++ p) ++ [], ⟨[] ++ p, [], trodAll_append (by rw [← hargs] at hA'; exact hA') (hres _ _ _), hvv _, rfl, ?_, ?_⟩, ?_⟩
    · intro b off hp
      have hp' : MemPlace.cell b off ∈ p := by simpa using hp
      rw [hB.frozen (hlt _ hp')]
      exact hzz b off hp'
    · intro ha
      simpa using hn ha
    · intro x hx _
      simpa using hx
theorem envq_below {E E' : Env} (h : E.q E') : Below E.w.heap.size E.w E'.w := ⟨h.os, h.tape, h.output, h.size, h.block⟩
/-- A slice of bytes, as the walk speaks of it. -/
theorem bytes_in {t e : TypeId} {W : World} {base : Nat} {v : Value} {d : DataW H} {ps : List MemPlace} (ht : P.underlying t = some (.slice e)) (he : P.underlying e = some (.int .u8)) (hc : P.cellsOf e = 1) (hv : Value.okWide P W .any base t v)
    (h : DataW.Trod enc P W 0 (fun _ => true) true t v d ps) : ∃ T : List Int, VR (envOf W) (.sl .no 1 (u8s T)) v ∧ (∀ n ∈ T, 0 ≤ n ∧ n ≤ 255) ∧ (d = .nil ∧ T = [] ∨ ∃ spare, d = .slice (lits .u8 T) spare) := by
  obtain ⟨fuel, hf⟩ := h
  obtain ⟨a0, len0, cap0, rfl⟩ := okWide_slice ht hv
  rcases open_ints ht he hc hf with ⟨hcs, hx⟩ | ⟨a, len, cap, zs, hcs, hb, hl, hm, hz, hx, hcell, hwf⟩
  · simp [Value.cells] at hcs
    obtain ⟨rfl, rfl, rfl⟩ := hcs
    simp only [Prod.mk.injEq] at hx
    refine ⟨[], ?_, by simp, .inl ⟨hx.1, rfl⟩⟩
    simp only [VR]
    exact ⟨_, _, _, rfl, rfl, Nat.le_refl _, fun h => absurd rfl h, trivial⟩
  · simp [Value.cells] at hcs
    obtain ⟨rfl, rfl, rfl⟩ := hcs
    simp only [Prod.mk.injEq] at hx
    simp only [if_true] at hz
    refine ⟨zs.take len0, ?_, fun n hn => bounds_u8 (hwf n (List.mem_of_mem_take hn)), .inr ⟨_, hx.1⟩⟩
    have hlen : (zs.take len0).length = len0 := by rw [List.length_take]; omega
    simp only [VR]
    refine ⟨_, _, _, rfl, by rw [u8s_len, hlen], hl, fun hne => ?_, trivial⟩
    have hpos : 0 < zs.length := by
      rcases Nat.eq_zero_or_pos zs.length with h0 | h0
      · exfalso
        apply hne
        rw [List.eq_nil_of_length_eq_zero h0]
        simp [u8s]
      · exact h0
    obtain ⟨b, off, rfl, hat⟩ := ints_at hcell hpos
    refine ⟨b, off, rfl, ElemsAt_iff.2 ⟨fun c hc => ?_, CellsAt_iff.2 ⟨(zs.take len0).map fun n => .int .u8 n, ?_, ?_, fun j u hu => ?_⟩⟩⟩
    · simp only [u8s, List.mem_map] at hc
      obtain ⟨x, _, rfl⟩ := hc
      rfl
    · have hfl : (u8s (zs.take len0)).flatten = (zs.take len0).map fun n => V.int .u8 n := by
        generalize zs.take len0 = l
        induction l with
        | nil => rfl
        | cons x l ih => simp only [u8s, List.map_cons, List.flatten_cons, List.singleton_append] at ih ⊢; rw [ih]
      rw [hfl]
      refine VRs.mk (by simp) fun j c u h1 h2 => ?_
      rw [List.getElem?_map] at h1
      rw [List.getElem?_map] at h2
      cases hx2 : (zs.take len0)[j]? with
      | none => rw [hx2] at h1; cases h1
      | some x =>
        rw [hx2] at h1 h2
        cases h1
        cases h2
        simp only [VR]
    · intro u hu
      obtain ⟨x, _, rfl⟩ := List.mem_map.1 hu
      rfl
    · rw [List.getElem?_map] at hu
      have hjl : j < (zs.take len0).length := by
        rcases Nat.lt_or_ge j (zs.take len0).length with h0 | h0
        · exact h0
        · rw [List.getElem?_eq_none h0] at hu; cases hu
      have hjz : j < zs.length := by rw [hlen] at hjl; omega
      have h1 := hat j hjz
      have h2 : zs.getD j 0 = (zs.take len0)[j] := by
        rw [List.getElem_take, List.getD_eq_getElem?_getD, List.getElem?_eq_getElem hjz]
        rfl
      rw [h2] at h1
      rw [List.getElem?_eq_getElem hjl] at hu
      cases hu
      exact ⟨h1, World.block_lt_of_cell? W _ h1⟩
/-- A pure function's call, in a world. -/
theorem pspec_call {f : FuncId} {args : List V} {r : V} (h : PSpec P f args r) {W : World} {vals : List Value} (hv : VRs (envOf W) args vals) : Calls P f vals.toArray W fun e W' => ∃ v E', e = .returned v ∧ Below W.heap.size W W' ∧ VR E' r v :=
  ((h fun _ => none).2 (envOf W) vals (envOf_wf W) ⟨0, fun _ _ => rfl⟩ ⟨(fun _ _ h => by cases h), (fun _ _ _ _ _ _ _ h => by cases h)⟩ hv).mono fun e W' ⟨v, E', h1, h2, h3, h4⟩ => ⟨v, E', h1, by subst h2; exact envq_below h3, h4⟩
end
end Go.Proofs.Fathom
