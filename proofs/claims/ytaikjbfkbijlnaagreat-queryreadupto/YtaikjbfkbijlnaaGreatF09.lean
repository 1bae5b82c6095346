/- A part of the proof of 'Rows.QueryReadUptoSaid': for every text and every seeds (of bulk at most 1048576 together) fathomlaw19.QueryRead returns true and its arguments read afterwards as before. -/
import Derived.Test.YtaikjbfkbijlnaaGreatF08
set_option linter.unusedVariables false
set_option linter.unusedSimpArgs false
namespace Go.Proofs.Fathom
open Go

def AOp.opds : AOp → List Opd
  | .mv x | .ld _ _ x | .fa _ x | .fld _ _ _ x | .chk x | .not x | .neg x | .com x | .cvi _ x | .b2s x | .ext x _ | .len x | .lens x | .box x | .mki _ x | .cvf x | .mkz _ _ _ x => [x]
  | .pick c x y => [c, x, y]
  | .bin _ _ x y | .ix _ x y | .ixs x y | .lk x y | .cpx x y | .slr _ x y => [x, y]
  | .slc _ x lo hi mx => [x] ++ lo.toList ++ hi.toList ++ mx.toList
  | .slcs x lo hi => [x] ++ lo.toList ++ hi.toList
  | .bld _ ps => ps.map (·.2.2)
  | .bsl _ ps => ps
  | .call _ as => as
  | .lnd _ as => as
  | .mm _ x r => x :: r
  | .mkf _ cs => cs

section
variable {P : Program} {ob : Obs}

theorem foldl_congr {α β : Type} {f g : β → α → β} : ∀ (l : List α) (b : β), (∀ x ∈ l, ∀ b, f b x = g b x) → l.foldl f b = l.foldl g b
  | [], _, _ => rfl
  | x :: l, b, h => by
    simp only [List.foldl_cons]
    rw [h x (by simp)]
    exact foldl_congr l _ fun y hy => h y (by simp [hy])
theorem all_congr {α : Type} {f g : α → Bool} : ∀ (l : List α), (∀ x ∈ l, f x = g x) → l.all f = l.all g
  | [], _ => rfl
  | x :: l, h => by
    simp only [List.all_cons]
    rw [h x (by simp), all_congr l fun y hy => h y (by simp [hy])]
theorem aq_congr {ρ ρ' : Opd → V} {K : V → Prop} (op : AOp) (h : ∀ x ∈ op.opds, ρ x = ρ' x) : aq P ρ ob K op = aq P ρ' ob K op := by
  cases op with
  | mv x => simp only [aq, h x (by simp [AOp.opds])]
  | pick c x y => simp only [aq, h c (by simp [AOp.opds]), h x (by simp [AOp.opds]), h y (by simp [AOp.opds])]
  | ld n g x => simp only [aq, h x (by simp [AOp.opds])]
  | fa n x => simp only [aq, h x (by simp [AOp.opds])]
  | fld a b c x => simp only [aq, h x (by simp [AOp.opds])]
  | chk x => simp only [aq, h x (by simp [AOp.opds])]
  | bin a b x y => simp only [aq, h x (by simp [AOp.opds]), h y (by simp [AOp.opds])]
  | not x => simp only [aq, h x (by simp [AOp.opds])]
  | neg x => simp only [aq, h x (by simp [AOp.opds])]
  | com x => simp only [aq, h x (by simp [AOp.opds])]
  | cvi k x => simp only [aq, h x (by simp [AOp.opds])]
  | b2s x => simp only [aq, h x (by simp [AOp.opds])]
  | ext x i => simp only [aq, h x (by simp [AOp.opds])]
  | len x => simp only [aq, h x (by simp [AOp.opds])]
  | lens x => simp only [aq, h x (by simp [AOp.opds])]
  | ix z x y => simp only [aq, h x (by simp [AOp.opds]), h y (by simp [AOp.opds])]
  | ixs x y => simp only [aq, h x (by simp [AOp.opds]), h y (by simp [AOp.opds])]
  | lk x y => simp only [aq, h x (by simp [AOp.opds]), h y (by simp [AOp.opds])]
  | cpx x y => simp only [aq, h x (by simp [AOp.opds]), h y (by simp [AOp.opds])]
  | slr z x y => simp only [aq, h x (by simp [AOp.opds]), h y (by simp [AOp.opds])]
  | cvf x => simp only [aq, h x (by simp [AOp.opds])]
  | mkz z b zero x => simp only [aq, h x (by simp [AOp.opds])]
  | slc z x lo hi mx =>
    have h1 : lov ρ lo = lov ρ' lo := by
      cases lo with
      | none => rfl
      | some l => simp only [lov, h l (by simp [AOp.opds])]
    have h2 : ∀ n, hiv ρ n hi = hiv ρ' n hi := by
      intro n
      cases hi with
      | none => rfl
      | some l => simp only [hiv, h l (by simp [AOp.opds])]
    cases mx with
    | none => simp only [aq, h x (by simp [AOp.opds]), h1, h2]
    | some m => simp only [aq, h x (by simp [AOp.opds]), h1, h2, h m (by simp [AOp.opds])]
  | slcs x lo hi =>
    have h1 : lov ρ lo = lov ρ' lo := by
      cases lo with
      | none => rfl
      | some l => simp only [lov, h l (by simp [AOp.opds])]
    have h2 : ∀ n, hiv ρ n hi = hiv ρ' n hi := by
      intro n
      cases hi with
      | none => rfl
      | some l => simp only [hiv, h l (by simp [AOp.opds])]
    simp only [aq, h x (by simp [AOp.opds]), h1, h2]
  | bld zero ps =>
    have h1 : ∀ p ∈ ps, ρ p.2.2 = ρ' p.2.2 := fun p hp => h _ (by simp only [AOp.opds, List.mem_map]; exact ⟨p, hp, rfl⟩)
    have h2 : (ps.map fun p => (p.1, ρ p.2.2)) = ps.map fun p => (p.1, ρ' p.2.2) := List.map_congr_left fun p hp => by rw [h1 p hp]
    simp only [aq, h2]
    congr 1
    apply propext
    constructor
    · intro hh p hp
      rw [← h1 p hp]
      exact hh p hp
    · intro hh p hp
      rw [h1 p hp]
      exact hh p hp
  | bsl z ps =>
    have h1 : ∀ p ∈ ps, ρ p = ρ' p := fun p hp => h _ hp
    have h2 : (ps.map fun p => (ρ p).cells) = ps.map fun p => (ρ' p).cells := List.map_congr_left fun p hp => by rw [h1 p hp]
    simp only [aq, h2]
    congr 1
    apply propext
    constructor
    · intro hh p hp
      rw [← h1 p hp]
      exact hh p hp
    · intro hh p hp
      rw [h1 p hp]
      exact hh p hp
  | box x => simp only [aq, h x (by simp [AOp.opds])]
  | call f as =>
    have h2 : as.map ρ = as.map ρ' := List.map_congr_left fun p hp => h p hp
    simp only [aq, h2]
  | lnd f as =>
    have h2 : as.map ρ = as.map ρ' := List.map_congr_left fun p hp => h p hp
    simp only [aq, h2]
  | mm mx x r =>
    have h1 : ∀ p ∈ r, ρ p = ρ' p := fun p hp => h _ (by simp [AOp.opds, hp])
    have h2 : r.foldl (fun v y => mm2 mx v (ρ y)) (ρ' x) = r.foldl (fun v y => mm2 mx v (ρ' y)) (ρ' x) := foldl_congr r _ fun y hy b => by rw [h1 y hy]
    have h3 : (r.all fun y => (ρ y).isInt) = r.all fun y => (ρ' y).isInt := all_congr r fun y hy => by rw [h1 y hy]
    simp only [aq, h2, h3, h x (by simp [AOp.opds])]
  | mkf f cs =>
    have h2 : cs.map ρ = cs.map ρ' := List.map_congr_left fun p hp => h p hp
    simp only [aq, h2]
  | mki t x => simp only [aq, h x (by simp [AOp.opds])]

theorem intq_iff {op : BinOp} {k : IntKind} {a b : Int} {K : V → Prop} : intq op k a b K ↔ ∃ v, intq op k a b (fun u => u = v) ∧ K v := by
  cases op <;> simp [intq, and_assoc]
theorem strq_iff {op : BinOp} {a b : ByteArray} {K : V → Prop} : strq op a b K ↔ ∃ v, strq op a b (fun u => u = v) ∧ K v := by
  cases op <;> simp [strq, and_assoc]
theorem binq_iff {op : BinOp} {tk : TK} {x y : V} {K : V → Prop} : binq op tk x y K ↔ ∃ v, binq op tk x y (fun u => u = v) ∧ K v := by
  unfold binq
  split
  · rw [intq_iff]
    constructor
    · rintro ⟨h1, v, h2, h3⟩; exact ⟨v, ⟨h1, h2⟩, h3⟩
    · rintro ⟨v, ⟨h1, h2⟩, h3⟩; exact ⟨h1, v, h2, h3⟩
  · exact strq_iff
  all_goals (cases op <;> simp [and_assoc])
theorem aq_iff {ρ : Opd → V} {K : V → Prop} (op : AOp) : aq P ρ ob K op ↔ ∃ v, aq P ρ ob (fun u => u = v) op ∧ K v := by
  cases op with
  | bin a b x y => simp only [aq]; exact binq_iff
  | pick c x y =>
    simp only [aq]
    split
    · rename_i t _
      cases t <;> simp
    · simp
  | call f as =>
    simp only [aq]
    constructor
    · rintro ⟨r, h1, h2⟩; exact ⟨r, ⟨r, h1, rfl⟩, h2⟩
    · rintro ⟨v, ⟨r, h1, rfl⟩, h2⟩; exact ⟨r, h1, h2⟩
  | lnd f as =>
    simp only [aq]
    constructor
    · rintro ⟨a, r, h1, h2, h3, h4⟩; exact ⟨r, ⟨a, r, h1, h2, h3, rfl⟩, h4⟩
    · rintro ⟨v, ⟨a, r, h1, h2, h3, rfl⟩, h4⟩; exact ⟨a, r, h1, h2, h3, h4⟩
  | ld n g x =>
    simp only [aq]
    split
    · simp [and_assoc]
    · constructor
      · rintro ⟨cs, h1, h2, h3⟩; exact ⟨_, ⟨cs, h1, h2, rfl⟩, h3⟩
      · rintro ⟨v, ⟨cs, h1, h2, rfl⟩, h3⟩; exact ⟨cs, h1, h2, h3⟩
    · constructor
      · rintro ⟨cs, c, h1, h2, h3, h4, h5⟩; exact ⟨_, ⟨cs, c, h1, h2, h3, h4, rfl⟩, h5⟩
      · rintro ⟨v, ⟨cs, c, h1, h2, h3, h4, rfl⟩, h5⟩; exact ⟨cs, c, h1, h2, h3, h4, h5⟩
    · simp
  | b2s x =>
    simp only [aq]
    split
    · constructor
      · rintro ⟨cs, h1, h3⟩; exact ⟨_, ⟨cs, h1, rfl⟩, h3⟩
      · rintro ⟨v, ⟨cs, h1, rfl⟩, h3⟩; exact ⟨cs, h1, h3⟩
    · simp
  | ext x i =>
    simp only [aq]
    split
    · constructor
      · rintro ⟨cs, h1, h3⟩; exact ⟨_, ⟨cs, h1, rfl⟩, h3⟩
      · rintro ⟨v, ⟨cs, h1, rfl⟩, h3⟩; exact ⟨cs, h1, h3⟩
    · simp
  | ix z x i =>
    simp only [aq]
    split
    · constructor
      · rintro ⟨h1, h2, c, h3, h4⟩; exact ⟨_, ⟨h1, h2, c, h3, rfl⟩, h4⟩
      · rintro ⟨v, ⟨h1, h2, c, h3, rfl⟩, h4⟩; exact ⟨h1, h2, c, h3, h4⟩
    · simp [and_assoc]
    · simp
  | ixs x i =>
    simp only [aq]
    split
    · constructor
      · rintro ⟨h2, c, h3, h4⟩; exact ⟨_, ⟨h2, c, h3, rfl⟩, h4⟩
      · rintro ⟨v, ⟨h2, c, h3, rfl⟩, h4⟩; exact ⟨h2, c, h3, h4⟩
    · simp
  | lk x i =>
    simp only [aq]
    split
    · constructor
      · rintro ⟨h2, c, h3, h4⟩; exact ⟨_, ⟨h2, c, h3, rfl⟩, h4⟩
      · rintro ⟨v, ⟨h2, c, h3, rfl⟩, h4⟩; exact ⟨h2, c, h3, h4⟩
    · simp
    · simp
  | slc z x lo hi mx =>
    simp only [aq]
    split
    · cases mx with
      | none =>
        constructor
        · rintro ⟨h1, l, h, h2, h3, h4, h5, h6, h7⟩; exact ⟨_, ⟨h1, l, h, h2, h3, h4, h5, h6, rfl⟩, h7⟩
        · rintro ⟨v, ⟨h1, l, h, h2, h3, h4, h5, h6, rfl⟩, h7⟩; exact ⟨h1, l, h, h2, h3, h4, h5, h6, h7⟩
      | some m =>
        constructor
        · rintro ⟨h1, l, h, h2, h3, h4, h5, h6, h8, h7⟩; exact ⟨_, ⟨h1, l, h, h2, h3, h4, h5, h6, h8, rfl⟩, h7⟩
        · rintro ⟨v, ⟨h1, l, h, h2, h3, h4, h5, h6, h8, rfl⟩, h7⟩; exact ⟨h1, l, h, h2, h3, h4, h5, h6, h8, h7⟩
    · simp
  | slcs x lo hi =>
    simp only [aq]
    split
    · constructor
      · rintro ⟨l, h, h2, h3, h4, h5, h6, h7⟩; exact ⟨_, ⟨l, h, h2, h3, h4, h5, h6, rfl⟩, h7⟩
      · rintro ⟨v, ⟨l, h, h2, h3, h4, h5, h6, rfl⟩, h7⟩; exact ⟨l, h, h2, h3, h4, h5, h6, h7⟩
    · simp
  | bld zero ps =>
    simp only [aq]
    constructor
    · rintro ⟨h1, h2, h3⟩; exact ⟨_, ⟨h1, h2, rfl⟩, h3⟩
    · rintro ⟨v, ⟨h1, h2, rfl⟩, h3⟩; exact ⟨h1, h2, h3⟩
  | bsl z ps =>
    simp only [aq]
    constructor
    · rintro ⟨h1, h3⟩; exact ⟨_, ⟨h1, rfl⟩, h3⟩
    · rintro ⟨v, ⟨h1, rfl⟩, h3⟩; exact ⟨h1, h3⟩
  | mm mx x r =>
    simp only [aq]
    constructor
    · rintro ⟨h1, h2, h3⟩; exact ⟨_, ⟨h1, h2, rfl⟩, h3⟩
    · rintro ⟨v, ⟨h1, h2, rfl⟩, h3⟩; exact ⟨h1, h2, h3⟩
  | box x => 
    simp only [aq]
    constructor
    · rintro ⟨h1, h3⟩; exact ⟨_, ⟨h1, rfl⟩, h3⟩
    · rintro ⟨v, ⟨h1, rfl⟩, h3⟩; exact ⟨h1, h3⟩
  | mv x => simp [aq]
  | mkf f cs => simp [aq]
  | mki t x => simp [aq]
  | fa n x => simp only [aq]; split <;> simp [and_assoc]
  | fld a b c x => simp only [aq]; split <;> simp [and_assoc]
  | chk x => simp only [aq]; split <;> simp
  | not x => simp only [aq]; split <;> simp
  | neg x => simp only [aq]; split <;> simp
  | com x => simp only [aq]; split <;> simp
  | cvi k x => simp only [aq]; split <;> simp
  | len x =>
    simp only [aq]
    split
    · simp
    · constructor
      · rintro ⟨h1, h3⟩; exact ⟨_, ⟨h1, rfl⟩, h3⟩
      · rintro ⟨v, ⟨h1, rfl⟩, h3⟩; exact ⟨h1, h3⟩
    · simp
  | lens x => simp only [aq]; split <;> simp
  | cvf x => simp only [aq]; split <;> simp
  | cpx x y => simp only [aq]; split <;> simp
  | mkz z b zero x => simp only [aq]; split <;> simp [and_assoc]
  | slr z x hi =>
    simp only [aq]
    split
    · constructor
      · rintro ⟨h1, h2, h3, h4, h5⟩; exact ⟨_, ⟨h1, h2, h3, h4, rfl⟩, h5⟩
      · rintro ⟨v, ⟨h1, h2, h3, h4, rfl⟩, h5⟩; exact ⟨h1, h2, h3, h4, h5⟩
    · simp
end
end Go.Proofs.Fathom
