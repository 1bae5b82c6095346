/- A part of the proof of 'Rows.QueryReadUptoSaid': for every text and every seeds (of bulk at most 1048576 together) fathomlaw19.QueryRead returns true and its arguments read afterwards as before. -/
import Derived.Test.YtaikjbfkbijlnaaGreatF06
set_option linter.unusedVariables false
set_option linter.unusedSimpArgs false
namespace Go.Proofs.Fathom
open Go

section
variable {P : Program} {E : Env} {ρ : Opd → V} {ev : Operand → Value} {ob : Obs} {o : Oper}

def World.setMap (w : World) (b : Nat) (es : Array MapEntry) (clock : Nat) : World := { w with heap := w.heap.setIfInBounds b (.map es clock) }
theorem setMap_same {w : World} {b : Nat} {o : Obj} (h : w.heap[b]? = some o) (es : Array MapEntry) (clock : Nat) : (World.setMap w b es clock).heap[b]? = some (.map es clock) := by
  have := heap_lt h
  simp [World.setMap, this]
theorem setMap_other {w : World} {b g : Nat} (h : g ≠ b) (es : Array MapEntry) (clock : Nat) : (World.setMap w b es clock).heap[g]? = w.heap[g]? := by
  simp only [World.setMap]
  exact Array.getElem?_setIfInBounds_ne (fun e => h e.symm)
theorem Env.st_map {E : Env} (hw : E.wf) {b : Nat} {ents : Array MapEntry} {clock : Nat} (hh : E.w.heap[b]? = some (.map ents clock)) {i : Nat} (hi : E.ι i = some (some b, 0)) (hm : ¬ E.M b) (es : Array MapEntry) (c : Nat) :
    E.st { E with w := World.setMap E.w b es c } i where
  le := by
    refine ⟨fun j g m hj => ⟨g, m, hj, Nat.le_refl _, fun _ => rfl, fun h => h⟩, fun _ _ h => h, fun g k h => ?_, fun g h => ⟨h, ?_⟩, fun g c' e' h => ⟨c', ?_, rfl⟩⟩
    · by_cases hgb : g = b
      · subst hgb
        simp [World.cell?, setMap_same hh, hh]
      · exact World.cell?_of_block (w := E.w) (a := ⟨g, k, none⟩) (setMap_other hgb es c)
    · exact setMap_other (fun e : g = b => hm (by rw [← e]; exact h)) es c
    · have hgb : g ≠ b := by
        intro e
        subst e
        rw [hh] at h
        cases h
      simp only
      rw [setMap_other hgb]
      exact h
  wf := ⟨fun g k h => by simp only [World.setMap, Array.size_setIfInBounds]; exact hw.F g k h, fun g h => by simp only [World.setMap, Array.size_setIfInBounds]; exact hw.M g h, fun g h => by
    obtain ⟨e1, c1, h1⟩ := hw.K g h
    exact ⟨e1, c1, by simp only; rw [setMap_other (fun e : g = b => hm (by rw [← e]; exact h))]; exact h1⟩⟩
  ι := fun _ _ => rfl
  block := fun g hg hne => setMap_other (fun e : g = b => hne 0 (by rw [e]; exact hi)) es c
  F := fun _ _ h => .inl h
  M := fun _ h => .inl h
  size := by simp [World.setMap]
  os := rfl
  tape := rfl
  output := rfl
  new := fun g n h => .inr ⟨n, h⟩
theorem findNow_idx (s : ByteArray) (m : ByteArray → Int) {ks : List ByteArray} {ents : List MapEntry} (h1 : ents.map (·.key) = ks.map Value.string) (h2 : ents.map (·.val) = ks.map (fun k => Value.int .i64 (m k))) :
    (s ∉ ks ∧ Instr.findNow .string (.string s) ents 0 = some none) ∨ ∃ j, ks[j]? = some s ∧ Instr.findNow .string (.string s) ents 0 = some (some (j, .int .i64 (m s))) := by
  rcases findNow_str s m ks ents 0 h1 h2 with h | ⟨j, h3, h4⟩
  · exact .inl h
  · exact .inr ⟨j, h3, by simpa using h4⟩
theorem ae_updm {m k v : Opd} {i : Nat} {s : ByteArray} {n : Int} {ks : List ByteArray} {mm : ByteArray → Int} (hw : E.wf) (hs : SOk E ob) (hev : EvOk E ρ ev) (hc : chkEOp P o.op (.updm m k v) = true)
    (hm : ρ m = .map i) (hk : ρ k = .str s) (hv : ρ v = .int .i64 n) (hob : ob i = some (.map ks mm)) :
    ERes P E i (.map (if ks.any (fun k => decide (k = s)) then ks else ks ++ [s]) (fun x => if x = s then n else mm x)) .junk ((execOp ev o).run P E.w) := by
  simp only [chkEOp] at hc
  split at hc
  · rename_i t p q r he
    simp only [Bool.and_eq_true] at hc
    obtain ⟨⟨⟨h0, h1⟩, h2⟩, h3⟩ := hc
    have hmv := hev _ _ h0
    have hkv := hev _ _ h1
    have hvv := hev _ _ h2
    rw [hm] at hmv
    rw [hk] at hkv
    rw [hv] at hvv
    simp only [VR] at hmv hkv hvv
    obtain ⟨b, hi, hmv⟩ := hmv
    obtain ⟨b', ents, clock, hi', hh, ⟨hnd, hkeys, hvals, hz⟩, hnm⟩ := hs.ok _ _ hob
    rw [hi] at hi'
    simp only [Option.some.injEq, Prod.mk.injEq, and_true] at hi'
    subst hi'
    obtain ⟨kt, e, inf, hu, hks, _, _⟩ := isSMapT_spec h3
    have hck : (Instr.checkKey false 10000 kt (.string s)).run P E.w = .ok () E.w := by
      have key : ∀ n, (Instr.checkKey false (n + 1) kt (.string s)).run P E.w = .ok () E.w := by
        intro n
        simp [Instr.checkKey, run_underlying hks]
      exact key 9999
    have hget : (getObj b).run P E.w = .ok (.map ents clock) E.w := by simp [getObj, Sem.run, hh]
    have hset : ∀ es c, (setObj b (.map es c)).run P E.w = .ok () (World.setMap E.w b es c) := by
      intro es c
      simp [setObj, Sem.run, hh, World.setMap]
    rcases findNow_idx s mm hkeys hvals with ⟨h5, h6⟩ | ⟨j, h5, h6⟩
    · have hany : ks.any (fun k => decide (k = s)) = false := by
        rw [List.any_eq_false]
        intro x hx
        simp only [decide_eq_true_eq]
        exact fun e => h5 (e ▸ hx)
      rw [hany]
      refine ⟨_, Env.st_map hw hh hi hnm (ents.push { key := .string s, val := .int .i64 n, born := clock }) (clock + 1), ⟨b, _, _, hi, setMap_same hh _ _, ⟨?_, ?_, ?_, ?_⟩, hnm⟩, .inr ⟨rfl, ?_⟩⟩
      · simp only [Bool.false_eq_true, if_false]
        exact List.nodup_append.2 ⟨hnd, by simp, fun a ha b hb => by simp at hb; subst hb; exact fun e => h5 (e ▸ ha)⟩
      · simp [hkeys]
      · simp only [Array.toList_push, List.map_append, hvals, Bool.false_eq_true, if_false, List.map_cons, List.map_nil, if_true]
        congr 1
        apply List.map_congr_left
        intro a ha
        rw [if_neg (fun e : a = s => h5 (by rw [← e]; exact ha))]
      · intro x hx
        simp only [Bool.false_eq_true, if_false, List.mem_append, List.mem_singleton, not_or] at hx
        show (if x = s then n else mm x) = 0
        rw [if_neg hx.2]
        exact hz x hx.1
      · simp [execOp, he, hmv, hkv, hvv, Instr.mapUpdate, run_underlying hu, hget, hck, Instr.findKey, run_underlying hks, h6, hset]
    · have hany : ks.any (fun k => decide (k = s)) = true := by
        rw [List.any_eq_true]
        exact ⟨s, List.mem_of_getElem? h5, by simp⟩
      rw [hany]
      have hlen : ents.toList.length = ks.length := by
        have := congrArg List.length hkeys
        simpa using this
      have hjl := (List.getElem?_eq_some_iff.1 h5).1
      have hkj : ((ents[j]?).map (·.key)).getD (.string s) = .string s := by
        have h7 : (ents.toList.map (·.key))[j]? = (ks.map Value.string)[j]? := by rw [hkeys]
        simp only [List.getElem?_map, h5, Option.map_some, Array.getElem?_toList] at h7
        rw [h7]
        rfl
      have hstay : ∀ w : World, (Instr.keyThatStays (.string s) (.string s)).run P w = .ok (.string s) w := by
        intro w
        have key : ∀ n, Instr.sameBits n (.string s) (.string s) = true := by
          intro n
          cases n <;> simp [Instr.sameBits, (Go.MapKept.bytes_beq s s).2 rfl]
        unfold Instr.keyThatStays
        rw [if_pos (key 10000)]
        rfl
      refine ⟨_, Env.st_map hw hh hi hnm (ents.modify j fun e => { e with key := .string s, val := .int .i64 n }) clock, ⟨b, _, _, hi, setMap_same hh _ _, ⟨hnd, ?_, ?_, ?_⟩, hnm⟩, .inr ⟨rfl, ?_⟩⟩
      · simp only [if_true]
        rw [← hkeys]
        apply List.ext_getElem?
        intro q
        simp only [List.getElem?_map, Array.getElem?_toList, Array.getElem?_modify]
        by_cases hq : j = q
        · subst hq
          simp only [if_true, Option.map_map]
          have h7 : (ents.toList.map (·.key))[j]? = (ks.map Value.string)[j]? := by rw [hkeys]
          simp only [List.getElem?_map, h5, Option.map_some, Array.getElem?_toList] at h7
          cases hej : ents[j]? with
          | none => rw [hej] at h7; cases h7
          | some x =>
            rw [hej] at h7
            simp only [Option.map_some, Option.some.injEq] at h7
            simp [h7]
        · rw [if_neg hq]
      · simp only [if_true]
        apply List.ext_getElem?
        intro q
        have h7 : (ents.toList.map (·.val))[q]? = (ks.map (fun k => Value.int .i64 (mm k)))[q]? := by rw [hvals]
        simp only [List.getElem?_map, Array.getElem?_toList, Array.getElem?_modify] at h7 ⊢
        by_cases hq : j = q
        · subst hq
          rw [h5] at h7 ⊢
          cases hej : ents[j]? with
          | none => rw [hej] at h7; cases h7
          | some x => simp
        · rw [if_neg hq]
          rw [h7]
          cases hkq : ks[q]? with
          | none => rfl
          | some x =>
            have hne : x ≠ s := by
              intro e
              subst e
              exact hq ((List.getElem?_inj hjl hnd).1 (h5.trans hkq.symm))
            simp [hne]
      · intro x hx
        simp only [if_true] at hx
        show (if x = s then n else mm x) = 0
        rw [if_neg (fun e : x = s => hx (by rw [e]; exact List.mem_of_getElem? h5))]
        exact hz x hx
      · simp [execOp, he, hmv, hkv, hvv, Instr.mapUpdate, run_underlying hu, hget, hck, Instr.findKey, run_underlying hks, h6, hkj, hstay, hset]
  · cases hc
end
end Go.Proofs.Fathom
