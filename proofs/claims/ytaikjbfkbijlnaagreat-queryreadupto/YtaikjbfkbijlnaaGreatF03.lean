/- A part of the proof of 'Rows.QueryReadUptoSaid': for every text and every seeds (of bulk at most 1048576 together) fathomlaw19.QueryRead returns true and its arguments read afterwards as before. -/
import Derived.Test.YtaikjbfkbijlnaaGreatF02
import Derived.Laws.Tables
set_option linter.unusedVariables false
set_option linter.unusedSimpArgs false
namespace Go.Proofs.Fathom
open Go

section
variable {P : Program} {E : Env} {ρ : Opd → V} {ev : Operand → Value} {ob : Obs} {K : V → Prop} {o : Oper}

/-- What a bound is. -/
theorem lov_spec (hev : EvOk E ρ ev) {lo : Option Opd} {lo' : Option Operand} (hc : chkOpdO lo' lo = true) {l : Int} (h : lov ρ lo = some l) :
    (lo'.map ev = none ∧ l = 0) ∨ ∃ k, lo'.map ev = some (.int k l) := by
  cases lo with
  | none =>
    cases lo' with
    | none => left; simp [lov] at h; exact ⟨rfl, h.symm⟩
    | some _ => simp [chkOpdO] at hc
  | some x =>
    cases lo' with
    | none => simp [chkOpdO] at hc
    | some p =>
      have := hev _ _ hc
      simp only [lov] at h
      split at h
      · rename_i k n hx
        cases h
        rw [hx] at this
        simp only [VR] at this
        exact .inr ⟨k, by simp [this]⟩
      · cases h
theorem hiv_spec (hev : EvOk E ρ ev) {len : Nat} {hi : Option Opd} {hi' : Option Operand} (hc : chkOpdO hi' hi = true) {h : Int} (hh : hiv ρ len hi = some h) :
    (hi'.map ev = none ∧ hi = none ∧ h = len) ∨ ∃ k, hi'.map ev = some (.int k h) ∧ hi ≠ none := by
  cases hi with
  | none =>
    cases hi' with
    | none => left; simp [hiv] at hh; exact ⟨rfl, rfl, hh.symm⟩
    | some _ => simp [chkOpdO] at hc
  | some x =>
    cases hi' with
    | none => simp [chkOpdO] at hc
    | some p =>
      have := hev _ _ hc
      simp only [hiv] at hh
      split at hh
      · rename_i k n hx
        cases hh
        rw [hx] at this
        simp only [VR] at this
        exact .inr ⟨k, by simp [this], by simp⟩
      · cases hh

theorem aq_slcs {x : Opd} {lo hi : Option Opd} (hev : EvOk E ρ ev) (hc : chkOp P o.op (.slcs x lo hi) = true) (h : aq P ρ ob K (.slcs x lo hi)) : QRes P E K ((execOp ev o).run P E.w) := by
  simp only [chkOp] at hc
  split at hc
  · rename_i t p lo' hi' he
    simp only [Bool.and_eq_true] at hc
    obtain ⟨⟨⟨h0, hl⟩, hh⟩, hst⟩ := hc
    have hx := hev _ _ h0
    simp only [aq] at h
    split at h
    · rename_i s hs
      rw [hs] at hx
      simp only [VR] at hx
      obtain ⟨l, h', h1, h2, h3, h4, h5, hk⟩ := h
      refine .value hk VR.str_ ?_
      have hu := isStrT_spec hst
      have run : (Instr.slice t (.string s) (lo'.map ev) (hi'.map ev) none).run P E.w = .ok (.string (s.extract l.toNat h'.toNat)) E.w := by
        have e1 : (h'.toNat : Int) = h' := Int.toNat_of_nonneg (by omega)
        have h6 : 0 ≤ h' := by omega
        rcases hiv_spec hev hh h2 with ⟨a2, _, e3⟩ | ⟨k2, a2, _⟩
        · have e4 : h'.toNat = s.size := by omega
          have h7 : l ≤ (s.size : Int) := by omega
          rcases lov_spec hev hl h1 with ⟨a1, rfl⟩ | ⟨k1, a1⟩ <;> rw [a1, a2] <;>
            simp [Instr.slice, run_underlying hu, Instr.sliceBounds, Instr.sliceBound, asIntOf, h3, h7, e4]
        · rcases lov_spec hev hl h1 with ⟨a1, rfl⟩ | ⟨k1, a1⟩ <;> rw [a1, a2] <;>
            simp [Instr.slice, run_underlying hu, Instr.sliceBounds, Instr.sliceBound, asIntOf, h3, h4, h5, e1, h6]
      simp [execOp, he, Instr.sliceAt, run_underlying hu, hx, run]
    · cases h
  · cases hc

theorem aq_slc {z : Nat} {x : Opd} {lo hi mx : Option Opd} (hev : EvOk E ρ ev) (hc : chkOp P o.op (.slc z x lo hi mx) = true) (h : aq P ρ ob K (.slc z x lo hi mx)) : QRes P E K ((execOp ev o).run P E.w) := by
  simp only [chkOp] at hc
  split at hc
  · rename_i t p lo' hi' mx' he
    simp only [Bool.and_eq_true] at hc
    obtain ⟨⟨⟨⟨h0, hl⟩, hh⟩, hm⟩, hel⟩ := hc
    have hx := hev _ _ h0
    split at hel
    · rename_i e hel'
      have hsz : sizeT P e = some z := by simpa using hel
      have hu := elemT_spec hel'
      simp only [aq] at h
      split at h
      · rename_i tk z' xs hs
        rw [hs] at hx
        simp only [VR] at hx
        obtain ⟨a, len, cap, hv, rfl, hle, hat, htok⟩ := hx
        obtain ⟨rfl, l, h', h1, h2, h3, h4, h5, hk⟩ := h
        have e1 : (h'.toNat : Int) = h' := Int.toNat_of_nonneg (by omega)
        have e2 : (l.toNat : Int) = l := Int.toNat_of_nonneg (by omega)
        have hlen : ((xs.take h'.toNat).drop l.toNat).length = h'.toNat - l.toNat := by simp; omega
        -- what is read behind the cut
        have body : ∀ m : Nat, l.toNat ≤ m → ((xs.take h'.toNat).drop l.toNat ≠ [] → ∃ b o', (if m = l.toNat then a else a.map (·.add (l.toNat * z'))) = some ⟨b, o', none⟩ ∧ ElemsAt E b o' z' ((xs.take h'.toNat).drop l.toNat)) ∨ m = l.toNat := by
          intro m hm'
          by_cases hml : m = l.toNat
          · exact .inr hml
          · refine .inl fun hne => ?_
            have hne' : xs ≠ [] := by intro e; subst e; simp at hne
            obtain ⟨b, o', rfl, hx'⟩ := hat hne'
            rw [if_neg hml]
            refine ⟨b, o' + l.toNat * z', by simp [add_off], ?_⟩
            exact (hx'.take h'.toNat).drop l.toNat (by simp; omega)
        have empty : ∀ m : Nat, h'.toNat ≤ m → m = l.toNat → (xs.take h'.toNat).drop l.toNat = [] := by
          intro m h6 h7
          apply List.eq_nil_of_length_eq_zero
          omega
        have rel : ∀ (m : Nat) (tk' : Tok), h'.toNat ≤ m → TokOk E tk' (if m = l.toNat then a else a.map (·.add (l.toNat * z'))) (h'.toNat - l.toNat) (m - l.toNat) z' →
            VR E (.sl tk' z' ((xs.take h'.toNat).drop l.toNat)) (.slice (if m = l.toNat then a else a.map (·.add (l.toNat * z'))) (h'.toNat - l.toNat) (m - l.toNat)) := by
          intro m tk' h6 h7
          simp only [VR]
          refine ⟨_, _, _, rfl, hlen.symm, by omega, fun hne => ?_, h7⟩
          rcases body m (by omega) with h8 | h8
          · exact h8 hne
          · exact absurd (empty m h6 h8) hne
        have hcap : h'.toNat ≤ cap := by omega
        cases mx with
        | none =>
          have hmx' : mx' = none := by cases mx' <;> simp [chkOpdO] at hm ⊢
          subst hmx'
          have run : (Instr.slice t (.slice a xs.length cap) (lo'.map ev) (hi'.map ev) none).run P E.w =
              .ok (.slice (if cap = l.toNat then a else a.map (·.add (l.toNat * z'))) (h'.toNat - l.toNat) (cap - l.toNat)) E.w := by
            have h6 : 0 ≤ h' := by omega
            have h8 : h' ≤ (cap : Int) := by omega
            rcases hiv_spec hev hh h2 with ⟨a2, _, e3⟩ | ⟨k2, a2, _⟩
            · have e4 : h'.toNat = xs.length := by omega
              have h7 : l ≤ (xs.length : Int) := by omega
              rcases lov_spec hev hl h1 with ⟨a1, rfl⟩ | ⟨k1, a1⟩ <;> rw [a1, a2] <;>
                simp [Instr.slice, run_underlying hu, Instr.sliceBounds, Instr.sliceBound, asIntOf, h3, h7, e4, sizeT_run hsz]
            · rcases lov_spec hev hl h1 with ⟨a1, rfl⟩ | ⟨k1, a1⟩ <;> rw [a1, a2] <;>
                simp [Instr.slice, run_underlying hu, Instr.sliceBounds, Instr.sliceBound, asIntOf, h3, h4, h8, e1, h6, sizeT_run hsz]
          refine .value hk (rel cap _ hcap ?_) (by simp [execOp, he, Instr.sliceAt, run_underlying hu, hv, run])
          split
          · rename_i ht hhi
            rcases hiv_spec hev hh h2 with ⟨_, _, rfl⟩ | ⟨_, _, hne⟩
            · simp only [TokOk] at htok ⊢
              omega
            · exact absurd rfl hne
          · trivial
        | some m =>
          cases mx' with
          | none => simp [chkOpdO] at hm
          | some mx' =>
            simp only [chkOpdO] at hm
            obtain ⟨h6, hk⟩ := hk
            have hmv := hev _ _ hm
            split at h6
            · rename_i k m' hm'
              obtain ⟨rfl, hne⟩ := h6
              rw [hm'] at hmv
              simp only [VR] at hmv
              rcases hiv_spec hev hh h2 with ⟨_, rfl, _⟩ | ⟨k2, a2, _⟩
              · exact absurd rfl hne
              have run : (Instr.slice t (.slice a xs.length cap) (lo'.map ev) (hi'.map ev) (some (ev mx'))).run P E.w =
                  .ok (.slice (if m'.toNat = l.toNat then a else a.map (·.add (l.toNat * z'))) (m'.toNat - l.toNat) (m'.toNat - l.toNat)) E.w := by
                rw [hmv]
                rcases lov_spec hev hl h1 with ⟨a1, rfl⟩ | ⟨k1, a1⟩ <;> rw [a1, a2] <;>
                  simp [Instr.slice, run_underlying hu, Instr.sliceBounds, Instr.sliceBound, asIntOf, h3, h4, h5, e1, (by omega : 0 ≤ m'), (by omega : m' ≤ cap), sizeT_run hsz]
              refine .value hk (rel m'.toNat .full (Nat.le_refl _) ?_) (by simp [execOp, he, Instr.sliceAt, run_underlying hu, hv, run])
              simp only [TokOk]
            · cases h6
      · cases h
    · cases hel
  · cases hc

theorem foldl_set (off : Nat) : ∀ (vs : List Value) (k : Nat) (cells : Array Value), off + k + vs.length ≤ cells.size →
    ((vs.zipIdx k).foldl (fun (cs : Array Value) (p : Value × Nat) => cs.setIfInBounds (off + p.2) p.1) cells).toList = cells.toList.take (off + k) ++ vs ++ cells.toList.drop (off + k + vs.length)
  | [], k, cells, _ => by simp
  | v :: vs, k, cells, h => by
    simp only [List.zipIdx_cons, List.foldl_cons]
    simp only [List.length_cons] at h
    rw [foldl_set off vs (k + 1) _ (by simp; omega)]
    have hlt : off + k < cells.toList.length := by simp; omega
    have e1 : off + (k + 1) = off + k + 1 := by omega
    rw [e1]
    simp only [Array.toList_setIfInBounds, List.length_cons]
    rw [List.take_succ_eq_append_getElem (by simpa using hlt)]
    rw [List.take_set_of_le (Nat.le_refl _)]
    rw [show off + k + 1 + vs.length = off + k + (vs.length + 1) by omega]
    rw [List.drop_set_of_lt (by omega)]
    simp
theorem fill_ok (places : List (Nat × Nat)) : ∀ (ps : List (Nat × Operand)) (parts : List (Nat × Nat × Opd)) (cs : List V) (cells : Array Value), EvOk E ρ ev → chkParts places ps parts = true →
    (∀ p ∈ parts, (ρ p.2.2).cells.length = p.2.1 ∧ (ρ p.2.2).okc = true) → VRs E cs cells.toList → AllOne cells.toList → (∀ p ∈ parts, p.1 + p.2.1 ≤ cs.length) →
    ∃ out, Instr.fill (places.toArray[·]?) cells (ps.map fun p => (p.1, ev p.2)) = some out ∧ AllOne out.toList ∧ VRs E (fillv cs (parts.map fun p => (p.1, ρ p.2.2))) out.toList
  | [], [], cs, cells, _, _, _, h1, h2, _ => ⟨cells, by simp [Instr.fill], h2, by simpa [fillv] using h1⟩
  | [], _ :: _, _, _, _, hc, _, _, _, _ => by simp [chkParts] at hc
  | (i, x) :: ps, [], _, _, _, hc, _, _, _, _ => by simp [chkParts] at hc
  | (i, x) :: ps, (off, n, y) :: parts, cs, cells, hev, hc, hp, h1, h2, hb => by
    simp only [chkParts, Bool.and_eq_true, beq_iff_eq] at hc
    obtain ⟨⟨hpl, h0⟩, hrest⟩ := hc
    have hp0 := hp (off, n, y) (by simp)
    have hb0 := hb (off, n, y) (by simp)
    simp only at hp0 hb0
    obtain ⟨h3, h4⟩ := (hev _ _ h0).stored hp0.2
    have hl := h4.length
    have hl1 := h1.length
    simp only [Array.length_toList] at hl hl1
    have hs : (ev x).cells.size = n := by omega
    have hfold : (((ev x).cells.zipIdx.foldl (fun (cs : Array Value) (p : Value × Nat) => cs.setIfInBounds (off + p.2) p.1) cells)).toList = cells.toList.take off ++ (ev x).cells.toList ++ cells.toList.drop (off + (ev x).cells.size) := by
      have := foldl_set off (ev x).cells.toList 0 cells (by simp; omega)
      simp only [Nat.add_zero, Array.length_toList] at this
      rw [← this, ← Array.foldl_toList, Array.toList_zipIdx]
    have hV : VRs E (cs.take off ++ (ρ y).cells ++ cs.drop (off + (ρ y).cells.length)) ((((ev x).cells.zipIdx.foldl (fun (cs : Array Value) (p : Value × Nat) => cs.setIfInBounds (off + p.2) p.1) cells)).toList) := by
      rw [hfold]
      refine ((h1.take off).append h4).append ?_
      rw [hl]
      exact h1.drop _
    have hO : AllOne ((((ev x).cells.zipIdx.foldl (fun (cs : Array Value) (p : Value × Nat) => cs.setIfInBounds (off + p.2) p.1) cells)).toList) := by
      rw [hfold]
      intro u hu
      simp only [List.mem_append] at hu
      rcases hu with (hu | hu) | hu
      · exact h2 u (List.mem_of_mem_take hu)
      · exact h3 u hu
      · exact h2 u (List.mem_of_mem_drop hu)
    obtain ⟨out, h5, h6, h7⟩ := fill_ok places ps parts _ _ hev hrest (fun p hm => hp p (by simp [hm])) hV hO (fun p hm => by
      have := hb p (by simp [hm])
      simp only [List.length_append, List.length_take, List.length_drop]
      omega)
    refine ⟨out, ?_, h6, by simpa [fillv] using h7⟩
    have hpl' : (places.toArray)[i]? = some (off, n) := by simpa using hpl
    have hle : ¬ (off + (ev x).cells.size > cells.size) := by omega
    simp only [List.map_cons, Instr.fill, hpl']
    rw [if_neg (by simp [hs]; omega)]
    exact h5
theorem zeroOk_spec {t : TypeId} {zs : List V} (h : zeroOk P t zs = true) (E : Env) : ∃ i z, P.info? t = some i ∧ i.zero = some z ∧ AllOne z.cells.toList ∧ VRs E zs z.cells.toList := by
  unfold zeroOk at h
  split at h
  · rename_i z hz
    obtain ⟨i, hi, hz⟩ := Option.bind_eq_some_iff.1 hz
    simp only [Bool.and_eq_true, beq_iff_eq, List.all_eq_true] at h
    refine ⟨i, z, hi, hz, fun u hu => ?_, VRs.mk h.1.symm fun j c v h1 h2 => ?_⟩
    · obtain ⟨j, hj⟩ := List.mem_iff_getElem?.1 hu
      have hlt := (List.getElem?_eq_some_iff.1 hj).1
      have : (u, zs[j]'(by omega)) ∈ z.cells.toList.zip zs := by
        rw [List.mem_iff_getElem?]
        exact ⟨j, by rw [List.getElem?_zip_eq_some]; exact ⟨hj, by simp⟩⟩
      exact (h.2 _ this).2
    · have : (v, c) ∈ z.cells.toList.zip zs := by
        rw [List.mem_iff_getElem?]
        exact ⟨j, by rw [List.getElem?_zip_eq_some]; exact ⟨h2, h1⟩⟩
      exact constOk_sound (h.2 _ this).1
  · cases h
theorem aq_bld {zero : List V} {parts : List (Nat × Nat × Opd)} (hev : EvOk E ρ ev) (hc : chkOp P o.op (.bld zero parts) = true) (h : aq P ρ ob K (.bld zero parts)) : QRes P E K ((execOp ev o).run P E.w) := by
  simp only [chkOp] at hc
  split at hc
  · rename_i t ps he
    simp only [Bool.and_eq_true] at hc
    obtain ⟨hz, hp⟩ := hc
    split at hp
    · rename_i places hpl
      obtain ⟨i, z, hi, hzz, h1, h2⟩ := zeroOk_spec hz E
      simp only [aq] at h
      obtain ⟨h3, h5, hk⟩ := h
      obtain ⟨out, h6, h7, h8⟩ := fill_ok places ps.toList parts zero z.cells hev hp h3 h2 h1 h5
      refine .value hk (v := .agg out) (by simp only [VR]; exact ⟨out, rfl, h7, h8⟩) ?_
      have hb : P.built t (ps.map fun (i, x) => (i, ev x)).toList = some out := by
        unfold placesT at hpl
        split at hpl
        · rename_i fields hu
          simp only [Program.built, hi, hu, hzz, hpl]
          simpa using h6
        · cases hpl
      simp [execOp, he, run_build E.w t _ out hb]
    · cases hp
  · cases hc

theorem fill_elems (z : Nat) : ∀ (ps : List (Nat × Operand)) (parts : List Opd) (k : Nat) (cells : Array Value), EvOk E ρ ev → chkElems k ps parts = true →
    (∀ p ∈ parts, (ρ p).cells.length = z ∧ (ρ p).okc = true) → cells.size = (k + parts.length) * z →
    ∃ out vs, Instr.fill (fun i => some (i * z, z)) cells (ps.map fun p => (p.1, ev p.2)) = some out ∧ out.toList = cells.toList.take (k * z) ++ vs ∧ AllOne vs ∧ VRs E (parts.map fun p => (ρ p).cells).flatten vs
  | [], [], k, cells, _, _, _, hs => ⟨cells, [], by simp [Instr.fill], by
      simp only [List.length_nil, Nat.add_zero] at hs
      rw [List.take_of_length_le (by simp [hs])]
      simp, (by intro u hu; cases hu), by simp [VRs]⟩
  | [], _ :: _, _, _, _, hc, _, _ => by simp [chkElems] at hc
  | (i, x) :: ps, [], _, _, _, hc, _, _ => by simp [chkElems] at hc
  | (i, x) :: ps, y :: parts, k, cells, hev, hc, hp, hs => by
    simp only [chkElems, Bool.and_eq_true, beq_iff_eq] at hc
    obtain ⟨⟨rfl, h0⟩, hrest⟩ := hc
    have hp0 := hp y (by simp)
    obtain ⟨h3, h4⟩ := (hev _ _ h0).stored hp0.2
    have hl := h4.length
    simp only [Array.length_toList] at hl
    have hsx : (ev x).cells.size = z := by omega
    have hcells : (i + 1) * z ≤ cells.size := by
      rw [hs]
      exact Nat.mul_le_mul_right _ (by simp)
    have hiz : i * z + z ≤ cells.size := by rw [← Nat.succ_mul]; exact hcells
    have hfold : (((ev x).cells.zipIdx.foldl (fun (cs : Array Value) (p : Value × Nat) => cs.setIfInBounds (i * z + p.2) p.1) cells)).toList = cells.toList.take (i * z) ++ (ev x).cells.toList ++ cells.toList.drop (i * z + z) := by
      have := foldl_set (i * z) (ev x).cells.toList 0 cells (by simp; omega)
      simp only [Nat.add_zero, Array.length_toList] at this
      rw [hsx] at this
      rw [← this, ← Array.foldl_toList, Array.toList_zipIdx]
    have hsize : (((ev x).cells.zipIdx.foldl (fun (cs : Array Value) (p : Value × Nat) => cs.setIfInBounds (i * z + p.2) p.1) cells)).size = cells.size := by
      rw [← Array.length_toList, hfold]
      simp only [List.length_append, List.length_take, List.length_drop, Array.length_toList]
      omega
    obtain ⟨out, vs, h5, h6, h7, h8⟩ := fill_elems z ps parts (i + 1) _ hev hrest (fun p hm => hp p (by simp [hm])) (by
      rw [hsize, hs]
      congr 1
      simp only [List.length_cons]
      omega)
    refine ⟨out, (ev x).cells.toList ++ vs, ?_, ?_, ?_, ?_⟩
    · simp only [List.map_cons, Instr.fill]
      rw [if_neg (by simp [hsx]; omega)]
      exact h5
    · rw [h6, hfold, Nat.succ_mul]
      rw [List.take_left' (by
        rw [List.length_append, List.length_take, Array.length_toList, Array.length_toList]
        omega)]
      rw [List.append_assoc]
    · intro u hu
      simp only [List.mem_append] at hu
      rcases hu with hu | hu
      · exact h3 u hu
      · exact h7 u hu
    · simp only [List.map_cons, List.flatten_cons]
      exact h4.append h8
theorem ElemsAt.grown {E : Env} (hw : E.wf) {z : Nat} {xs : List (List V)} {vs : List Value} (hz : ∀ c ∈ xs, c.length = z) (h : VRs E xs.flatten vs) (h1 : AllOne vs) (e : TypeId) :
    ElemsAt (E.grow (.cells vs.toArray e) (fun _ => True)) E.w.heap.size 0 z xs :=
  ElemsAt_iff.2 ⟨hz, CellsAt.grown hw h h1 e⟩
theorem aq_bsl {z : Nat} {parts : List Opd} (hw : E.wf) (hev : EvOk E ρ ev) (hc : chkOp P o.op (.bsl z parts) = true) (h : aq P ρ ob K (.bsl z parts)) : QRes P E K ((execOp ev o).run P E.w) := by
  simp only [chkOp] at hc
  split at hc
  · rename_i t n ps he
    simp only [Bool.and_eq_true, beq_iff_eq, decide_eq_true_eq] at hc
    obtain ⟨⟨⟨rfl, hp⟩, hbig⟩, hel⟩ := hc
    split at hel
    · rename_i e hel'
      have hu := elemT_spec hel'
      simp only [Bool.and_eq_true, beq_iff_eq] at hel
      obtain ⟨hsz, hzero⟩ := hel
      split at hzero
      · rename_i zv hzv
        obtain ⟨i, hi, hzz⟩ := Option.bind_eq_some_iff.1 hzv
        have hzs : zv.cells.size = z := by simpa using hzero
        simp only [aq] at h
        obtain ⟨h1, hk⟩ := h
        have hbig' : ¬ parts.length * z > 2 ^ 24 := by omega
        let zero : Array Value := if parts.length * z = 0 then #[] else zv.cells
        obtain ⟨out, vs, h2, h3, h4, h5⟩ := fill_elems z ps.toList parts 0 ((Array.range (parts.length * z)).map (zero[· % zero.size]!)) hev hp h1 (by simp)
        simp only [Nat.zero_mul, List.take_zero, List.nil_append] at h3
        have hout : out = vs.toArray := by apply Array.ext'; simpa using h3
        subst hout
        refine .inl ⟨_, .slice (some ⟨E.w.heap.size, 0, none⟩) parts.length parts.length, E.grow (.cells vs.toArray e) (fun _ => True), hk, ?_, Env.q_grow _ _ _, ?_⟩
        · simp only [VR]
          refine ⟨_, _, _, rfl, by simp, Nat.le_refl _, fun _ => ⟨_, _, rfl, ElemsAt.grown hw ?_ h5 h4 e⟩, rfl⟩
          intro c hc
          obtain ⟨p, hp', rfl⟩ := List.mem_map.1 hc
          exact (h1 p hp').1
        · have hps : (ps.map fun (p : Nat × Operand) => (p.1, ev p.2)).toList = ps.toList.map fun p => (p.1, ev p.2) := by simp
          by_cases h0 : parts.length * z = 0
          · have hz0 : zero = #[] := by simp only [zero]; rw [if_pos h0]
            rw [hz0] at h2
            rw [h0] at h2
            simp [execOp, he, Instr.buildSlice, run_underlying hu, sizeT_run hsz, hbig', h0, newRow, Env.grow]
            simp at h2
            rw [h2]
            simp
          · have hz0 : zero = zv.cells := by simp only [zero]; rw [if_neg h0]
            rw [hz0] at h2
            have h0' : ¬ (parts.length = 0 ∨ z = 0) := by
              intro h
              apply h0
              rcases h with h | h <;> simp [h]
            simp only [execOp, he, Instr.buildSlice, Sem.run_bind, run_underlying hu, sizeT_run hsz, Result.andThen_ok, if_neg hbig', if_neg h0, zeroValue, typeInfo, run_program, hi, Sem.run_pure, hzz]
            simp only [hps, h2]
            simp [newRow, Env.grow]
      · cases hzero
    · cases hel
  · cases hc
theorem madeCells_list (z : Array Value) (n : Nat) (h0 : 0 < z.size) : (madeCells z (n * z.size)).toList = (List.replicate n z.toList).flatten := by
  apply List.ext_getElem?
  intro k
  simp only [madeCells, Array.toList_map, Array.toList_range, List.getElem?_map]
  by_cases hk : k < n * z.size
  · rw [List.getElem?_range hk]
    simp only [Option.map_some]
    have hlen : ∀ c ∈ List.replicate n z.toList, c.length = z.size := by
      intro c hc
      rw [(List.mem_replicate.1 hc).2]
      simp
    have hdiv : k / z.size < n := Nat.div_lt_of_lt_mul (by rw [Nat.mul_comm]; exact hk)
    have hmod : k % z.size < z.size := Nat.mod_lt _ h0
    have : ∀ (xs : List (List Value)), (∀ c ∈ xs, c.length = z.size) → ∀ {j k : Nat} {c : List Value}, xs[j]? = some c → k < z.size → xs.flatten[j * z.size + k]? = c[k]? := by
      intro xs
      induction xs with
      | nil => intro _ j k c hj; simp at hj
      | cons d xs ih =>
        intro hz j k c hj hk
        have hd := hz d (by simp)
        cases j with
        | zero =>
          simp at hj
          subst hj
          rw [List.flatten_cons, Nat.zero_mul, Nat.zero_add, List.getElem?_append_left (by omega)]
        | succ j =>
          simp at hj
          rw [List.flatten_cons, List.getElem?_append_right (by rw [Nat.succ_mul]; omega)]
          rw [show (j + 1) * z.size + k - d.length = j * z.size + k by rw [Nat.succ_mul]; omega]
          exact ih (fun c hc => hz c (by simp [hc])) hj hk
    have h2 := this _ hlen (j := k / z.size) (k := k % z.size) (c := z.toList) (by rw [List.getElem?_replicate, if_pos hdiv]) hmod
    rw [Nat.mul_comm, Nat.div_add_mod] at h2
    rw [h2]
    simp [hmod]
  · rw [List.getElem?_eq_none (by simp; omega), List.getElem?_eq_none]
    · rfl
    · simp
      omega

theorem VR.flat1 {E E' : Env} {c : V} {v : Value} (h : c.flat1 = true) (hv : VR E c v) : VR E' c v := by
  cases c <;> simp only [V.flat1, Bool.false_eq_true] at h <;> simpa only [VR] using hv
theorem VRs.flat1 {E E' : Env} : ∀ {cs : List V} {vs : List Value}, cs.all V.flat1 = true → VRs E cs vs → VRs E' cs vs
  | [], _, _, hv => by simpa only [VRs] using hv
  | c :: cs, _, h, hv => by
    simp only [List.all_cons, Bool.and_eq_true] at h
    simp only [VRs] at hv ⊢
    obtain ⟨v, l, e, h1, h2⟩ := hv
    exact ⟨v, l, e, VR.flat1 h.1 h1, VRs.flat1 h.2 h2⟩
theorem VR.flat {E E' : Env} {c : V} {v : Value} (h : c.flat = true) (hv : VR E c v) : VR E' c v := by
  cases c with
  | tup cs =>
    simp only [V.flat] at h
    simp only [VR] at hv ⊢
    obtain ⟨vs, e, hs⟩ := hv
    exact ⟨vs, e, hs.flat1 h⟩
  | agg cs =>
    simp only [V.flat] at h
    simp only [VR] at hv ⊢
    obtain ⟨vs, e, h1, hs⟩ := hv
    exact ⟨vs, e, h1, hs.flat1 h⟩
  | _ => exact VR.flat1 h hv
/-- All that is, frozen for a while. -/
def Env.ice (E : Env) : Env := { E with F := fun b o => E.F b o ∨ b < E.w.heap.size }
theorem Env.le_ice (E : Env) : E.le E.ice := ⟨fun _ b n h => ⟨b, n, h, Nat.le_refl _, fun _ => rfl, fun h => h⟩, fun _ _ h => .inl h, fun _ _ _ => rfl, fun _ h => ⟨h, rfl⟩, fun _ c _ h => ⟨c, h, rfl⟩⟩
theorem lend1_ok (hs : SOk E ob) {c c' : V} {v : Value} (hc : lend1 ob c = some c') (hv : VR E c v) : VR E.ice c' v := by
  cases c with
  | row i n z o l =>
    simp only [lend1] at hc
    split at hc
    · rename_i z' xs hob
      split at hc
      · rename_i hcond
        obtain ⟨rfl, hn⟩ := hcond
        cases hc
        simp only [VR] at hv ⊢
        obtain ⟨b, hi, hlv⟩ := hv.live hs ⟨xs, hob, hn⟩
        obtain ⟨b', hi', hz, hreal⟩ := hs.ok _ _ hob
        rw [hi] at hi'
        simp only [Option.some.injEq, Prod.mk.injEq] at hi'
        obtain ⟨rfl, _⟩ := hi'
        cases b with
        | none =>
          obtain ⟨_, rfl, a, rfl⟩ := hlv
          have hx : xs = [] := hreal
          subst hx
          exact ⟨a, 0, 0, rfl, by simp, Nat.le_refl _, fun hne => absurd (by simp) hne, trivial⟩
        | some b =>
          obtain ⟨cap, rfl, h5, h6, h7, cur', e', hh', hcs⟩ := hlv
          obtain ⟨cur, e, hh, hsz, hone, hr, hnf⟩ := hreal
          have hlen : ((xs.take (o + l)).drop o).length = l := by
            rw [List.length_drop, List.length_take]
            omega
          have hall : ElemsAt E.ice b 0 z' xs := by
            refine ElemsAt_iff.2 ⟨hz, CellsAt_iff.2 ⟨_, hr.mono E.le_ice, hone, fun j u hu => ⟨?_, .inr (heap_lt hh)⟩⟩⟩
            rw [Nat.zero_add]
            show E.w.cell? _ = _
            rw [cell_of_row E.w b j cur e (0, 0) hh]
            rw [List.getElem?_take] at hu
            split at hu
            · simpa using hu
            · cases hu
          refine ⟨_, l, cap, rfl, hlen.symm, h5, fun _ => ⟨b, o * z', rfl, ?_⟩, trivial⟩
          have := (hall.take (o + l)).drop o (by rw [List.length_take]; omega)
          rwa [Nat.zero_add] at this
      · cases hc
    · cases hc
  | _ => simp only [lend1] at hc; cases hc; exact VR.mono E.le_ice hv
theorem lends_ok (hs : SOk E ob) : ∀ {cs cs' : List V} {vs : List Value}, lends ob cs = some cs' → VRs E cs vs → VRs E.ice cs' vs
  | [], cs', vs, hc, hv => by
    simp only [lends] at hc
    cases hc
    simpa only [VRs] using hv
  | c :: cs, cs', vs, hc, hv => by
    simp only [lends] at hc
    split at hc
    · rename_i w ws h1 h2
      cases hc
      simp only [VRs] at hv ⊢
      obtain ⟨v, l, e, k1, k2⟩ := hv
      exact ⟨v, l, e, lend1_ok hs h1 k1, lends_ok hs h2 k2⟩
    · cases hc
theorem aq_lnd {f : FuncId} {args : List Opd} (hfun : ∀ g, ev (.func g) = .func (.func g) #[] #[]) (hfin : ∃ n, ∀ j, n ≤ j → E.ι j = none) (hw : E.wf) (hs : SOk E ob) (hev : EvOk E ρ ev) (hc : chkOp P o.op (.lnd f args) = true) (h : aq P ρ ob K (.lnd f args)) : QRes P E K ((execOp ev o).run P E.w) := by
  simp only [chkOp] at hc
  split at hc
  · rename_i g as ts he
    simp only [Bool.and_eq_true, beq_iff_eq] at hc
    obtain ⟨rfl, h1⟩ := hc
    simp only [aq] at h
    obtain ⟨args', r, hl, hall, hfl, hk⟩ := h
    obtain ⟨hok, hspec⟩ := hall fun _ => none
    have hv := lends_ok hs hl (hev.list h1)
    refine .inr ⟨g, (as.map ev), ?_, ?_⟩
    · unfold okFn at hok
      split at hok
      · rename_i fn hfn
        simp only [Bool.and_eq_true, Bool.not_eq_true', beq_eq_false_iff_ne] at hok
        have hb : fn.body.isNone = false := by
          cases hh : fn.body <;> simp_all
        have hb' : ¬ fn.body = none := by
          intro e
          rw [e] at hb
          cases hb
        simp [execOp, he, resolve, hfun, Deferred.ofValue, invoke, callFunc, hfn, hok.1, hb']
      · cases hok
    · have hwi : E.ice.wf := ⟨fun b o hf => by
          rcases hf with hf | hf
          · exact hw.F b o hf
          · exact hf, hw.M, hw.K⟩
      have := hspec E.ice (as.toList.map ev) hwi hfin ⟨fun _ _ hi => (by cases hi), fun _ _ _ _ _ _ _ hi => (by cases hi)⟩ hv
      have e : (as.toList.map ev).toArray = as.map ev := by
        apply Array.ext'
        simp
      rw [e] at this
      refine this.mono fun e w' ⟨v, E', h1, h2, h3, h4⟩ => ⟨r, v, { E' with F := fun b o => E.F b o ∨ (E.w.heap.size ≤ b ∧ E'.F b o) }, h1, h2, ?_, hk, h4.flat hfl⟩
      refine ⟨h3.ι, fun _ _ h => .inl h, fun b o hf => ?_, h3.M, h3.Mn, fun b hf => ?_, h3.size, h3.block, h3.os, h3.tape, h3.output⟩
      · rcases hf with hf | ⟨hb, hf⟩
        · exact .inl hf
        · rcases h3.Fn b o hf with (x | x) | x
          · exact .inl x
          · exact absurd x (by omega)
          · exact .inr x
      · exact h3.K b hf
  · cases hc
theorem aq_cvf {x : Opd} (hev : EvOk E ρ ev) (hc : chkOp P o.op (.cvf x) = true) (h : aq P ρ ob K (.cvf x)) : QRes P E K ((execOp ev o).run P E.w) := by
  simp only [chkOp] at hc
  split at hc
  · rename_i s d p he
    simp only [Bool.and_eq_true] at hc
    obtain ⟨⟨h0, h2⟩, h3⟩ := hc
    have h1 := hev _ _ h0
    obtain ⟨ds, hs⟩ := Option.isSome_iff_exists.1 h2
    split at h3
    · rename_i hd
      simp only [aq] at h
      split at h
      · rename_i k n hb
        rw [hb] at h1
        simp only [VR] at h1
        refine .value h (v := .float .f64 (FloatKind.f64.nearest n)) (by simp only [VR]) ?_
        simp [execOp, he, h1, convert, run_underlying hs, run_underlying hd]
        cases ds <;> simp [Conv.intToFloat]
      · cases h
    · cases h3
  · cases hc
theorem aq_cpx {x y : Opd} (hev : EvOk E ρ ev) (hc : chkOp P o.op (.cpx x y) = true) (h : aq P ρ ob K (.cpx x y)) : QRes P E K ((execOp ev o).run P E.w) := by
  simp only [chkOp] at hc
  split at hc
  · rename_i as ts he
    have h0 := hev.list hc
    simp only [List.map_cons, List.map_nil, VRs] at h0
    obtain ⟨u, l1, h1, hu, v, l2, rfl, hv, rfl⟩ := h0
    simp only [aq] at h
    split at h
    · rename_i a b hx hy
      rw [hx] at hu
      rw [hy] at hv
      simp only [VR] at hu hv
      subst hu hv
      have harr : as.map ev = #[.float .f64 a, .float .f64 b] := by
        apply Array.ext'
        simpa using h1
      refine .value h (v := .complex .f64 a b) (by simp only [VR]) ?_
      have hcx : ∀ ts ty, Builtin.complex_ ts ty #[.float .f64 a, .float .f64 b] = pure (.complex .f64 a b) := fun _ _ => rfl
      simp [execOp, he, resolve, invoke, builtin, harr, hcx]
    · cases h
  · cases hc
theorem aq_mkz {z by_ : Nat} {zero : List V} {n : Opd} (hw : E.wf) (hev : EvOk E ρ ev) (hc : chkOp P o.op (.mkz z by_ zero n) = true) (h : aq P ρ ob K (.mkz z by_ zero n)) : QRes P E K ((execOp ev o).run P E.w) := by
  simp only [chkOp] at hc
  split at hc
  · rename_i t l c he
    simp only [Bool.and_eq_true] at hc
    obtain ⟨⟨hl, hcc⟩, hel⟩ := hc
    have h1 := hev _ _ hl
    have h2 := hev _ _ hcc
    simp only [aq] at h
    split at h
    · rename_i kk m hn
      obtain ⟨h0, hb, hk⟩ := h
      rw [hn] at h1 h2
      simp only [VR] at h1 h2
      split at hel
      · rename_i e hel'
        simp only [Bool.and_eq_true] at hel
        obtain ⟨hzo, hinf⟩ := hel
        obtain ⟨inf, zv, h3, h4, h5, h6⟩ := zeroOk_spec hzo E
        rw [h3] at hinf
        simp only [Bool.and_eq_true, beq_iff_eq, decide_eq_true_eq] at hinf
        obtain ⟨⟨⟨⟨rfl, rfl⟩, hpos⟩, hzl⟩, hz0⟩ := hinf
        have hzs : zv.cells.size = inf.size := by
          have := h6.length
          simp only [Array.length_toList] at this
          omega
        have hm : m ≤ 140737488355328 := by
          have : m.toNat ≤ m.toNat * inf.bytes := Nat.le_mul_of_pos_right _ hpos
          omega
        have hbytes : (inf.bytes : Int) * m ≤ 281474976710656 := by
          have e1 : ((m.toNat * inf.bytes : Nat) : Int) = m * (inf.bytes : Int) := by
            rw [Int.natCast_mul, Int.toNat_of_nonneg h0]
          rw [Int.mul_comm, ← e1]
          omega
        have hrun := run_make (P := P) E.w t e inf zv (elemT_spec hel') h3 h4 kk kk m m h0 (Int.le_refl _) hbytes (by omega)
        have hlist := madeCells_list zv.cells m.toNat (by omega)
        rw [hzs] at hlist
        have hvs : VRs E (List.replicate m.toNat zero).flatten (madeCells zv.cells (m.toNat * inf.size)).toList := by
          rw [hlist]
          clear hrun hlist hb hm hbytes h0 hn h1 h2 hk
          induction m.toNat with
          | zero => simp [VRs]
          | succ k ih =>
            simp only [List.replicate_succ, List.flatten_cons]
            exact h6.append ih
        have hone : AllOne (madeCells zv.cells (m.toNat * inf.size)).toList := by
          rw [hlist]
          intro u hu
          obtain ⟨l', hl', hu⟩ := List.mem_flatten.1 hu
          rw [(List.mem_replicate.1 hl').2] at hu
          exact h5 u hu
        refine .inl ⟨_, .slice (some ⟨E.w.heap.size, 0, none⟩) m.toNat m.toNat, E.grow (.cells (madeCells zv.cells (m.toNat * inf.size)) e) (fun _ => True), hk, ?_, Env.q_grow _ _ _, ?_⟩
        · simp only [VR]
          refine ⟨_, _, _, rfl, by simp, Nat.le_refl _, fun _ => ⟨_, _, rfl, ?_⟩, trivial⟩
          have := ElemsAt.grown hw (z := inf.size) (xs := List.replicate m.toNat zero) (fun c hc => by rw [(List.mem_replicate.1 hc).2]; exact hzl) hvs hone e
          simpa using this
        · simp only [execOp, he, h1, h2, Sem.run_bind, hrun, Result.andThen_ok, Sem.run_pure]
          rfl
      · cases hel
    · cases h
  · cases hc
theorem aq_slr {z : Nat} {x hi : Opd} (hs : SOk E ob) (hev : EvOk E ρ ev) (hc : chkOp P o.op (.slr z x hi) = true) (h : aq P ρ ob K (.slr z x hi)) : QRes P E K ((execOp ev o).run P E.w) := by
  simp only [chkOp] at hc
  split at hc
  · rename_i t p q he
    simp only [Bool.and_eq_true] at hc
    obtain ⟨⟨h0, hh⟩, hel⟩ := hc
    have hx := hev _ _ h0
    have hq := hev _ _ hh
    split at hel
    · rename_i e hel'
      have hsz : sizeT P e = some z := by simpa using hel
      have hu := elemT_spec hel'
      simp only [aq] at h
      split at h
      · rename_i i n z' o' l k h' hx1 hq1
        rw [hx1] at hx
        rw [hq1] at hq
        simp only [VR] at hx hq
        obtain ⟨hob, rfl, h3, h4, hk⟩ := h
        obtain ⟨b, hi, hl⟩ := hx.live hs hob
        cases b with
        | none =>
          obtain ⟨rfl, rfl, a, hv⟩ := hl
          have h5 : h' = 0 := by omega
          subst h5
          refine .value hk (v := .slice a 0 0) ?_ ?_
          · simp only [VR, RowOk]
            exact ⟨⟨_, _, _, rfl⟩, none, 0, hi, Nat.le_refl _, fun _ => by simp⟩
          · simp [execOp, he, Instr.sliceAt, Instr.slice, run_underlying hu, Instr.sliceBounds, Instr.sliceBound, asIntOf, hv, hq, sizeT_run hsz]
        | some b =>
          obtain ⟨cap, hv, h5, h6, h7, cur, e2, h8, h9⟩ := hl
          have e1 : (h'.toNat : Int) = h' := Int.toNat_of_nonneg h3
          have h10 : h' ≤ (cap : Int) := by omega
          refine .value hk (v := .slice (some ⟨b, o' * z', none⟩) h'.toNat cap) ?_ ?_
          · simp only [VR, RowOk]
            exact ⟨⟨_, _, _, rfl⟩, some b, n, hi, Nat.le_refl _, fun _ => ⟨cap, rfl, by omega, by omega, h7, cur, e2, h8, h9⟩⟩
          · simp [execOp, he, Instr.sliceAt, Instr.slice, run_underlying hu, Instr.sliceBounds, Instr.sliceBound, asIntOf, hv, hq, sizeT_run hsz, h3, h10, e1, Addr.add]
      · cases h
    · cases hel
  · cases hc
/-- Every operation that leaves the objects alone does what it is said to do. -/
theorem aq_sound {op : AOp} (hfun : ∀ g, ev (.func g) = .func (.func g) #[] #[]) (hfin : ∃ n, ∀ j, n ≤ j → E.ι j = none) (hw : E.wf) (hs : SOk E ob) (hev : EvOk E ρ ev) (hc : chkOp P o.op op = true) (h : aq P ρ ob K op) :
    QRes P E K ((execOp ev o).run P E.w) := by
  cases op with
  | mv => exact aq_mv hev hc h
  | pick => exact aq_pick hev hc h
  | ld => exact aq_ld hs hev hc h
  | fa => exact aq_fa hev hc h
  | fld => exact aq_fld hev hc h
  | chk => exact aq_chk hev hc h
  | bin => exact aq_bin hev hc h
  | not => exact aq_not hev hc h
  | neg => exact aq_neg hev hc h
  | com => exact aq_com hev hc h
  | cvi => exact aq_cvi hev hc h
  | b2s => exact aq_b2s hev hc h
  | ext => exact aq_ext hev hc h
  | len => exact aq_len hs hev hc h
  | lens => exact aq_lens hev hc h
  | ix => exact aq_ix hs hev hc h
  | ixs => exact aq_ixs hev hc h
  | slc => exact aq_slc hev hc h
  | slcs => exact aq_slcs hev hc h
  | bld => exact aq_bld hev hc h
  | bsl => exact aq_bsl hw hev hc h
  | box => exact aq_box hw hev hc h
  | call => exact aq_call hfun hfin hw hs hev hc h
  | mm => exact aq_mm hev hc h
  | mkf => exact aq_mkf hev hc h
  | mki => exact aq_mki hev hc h
  | lk => exact aq_lk hs hev hc h
  | cvf => exact aq_cvf hev hc h
  | lnd => exact aq_lnd hfun hfin hw hs hev hc h
  | cpx => exact aq_cpx hev hc h
  | mkz => exact aq_mkz hw hev hc h
  | slr => exact aq_slr hs hev hc h
end
end Go.Proofs.Fathom
