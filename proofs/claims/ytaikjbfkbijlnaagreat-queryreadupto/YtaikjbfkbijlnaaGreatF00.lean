/- A part of the proof of 'Rows.QueryReadUptoSaid': for every text and every seeds (of bulk at most 1048576 together) fathomlaw19.QueryRead returns true and its arguments read afterwards as before. -/
import Derived.Calls
import Derived.Orders
import Derived.Laws.AppendOwn
import Derived.Laws.OwnMore
import Derived.Laws.NewBlocks
import Derived.Laws.BytesArg
import Derived.Laws.Slices
import Derived.KernelRfl
import Derived.RowKit3
namespace Go.Proofs.Fathom
open Go

/-- The right to append in place. -/
inductive Tok where
  | no
  | full
  | tip (i : Nat)

/-- Abstract values. Slices hold their elements, each as its list of cells. -/
inductive V where
  | int (k : IntKind) (n : Int)
  | bool (b : Bool)
  | str (s : ByteArray)
  | flt (b : Nat)
  | cpx (re im : Nat)
  | agg (cs : List V)
  | tup (vs : List V)
  | sl (t : Tok) (z : Nat) (xs : List (List V))
  | row (i n z o l : Nat)
  | rptr (i n z j f : Nat)
  | cref (cs : List V)
  | ptr (i off : Nat)
  | nilp
  | fn (f : FuncId) (caps : List V)
  | nilf
  | map (i : Nat)
  | nilm
  | cmap (ks : List ByteArray) (m : ByteArray → Int)
  | iface (t : TypeId) (x : V)
  | nili
  | junk

/-- What is known of a world: names of objects, cells and maps that stay as they are. -/
structure Env where
  ι : Nat → Option (Option Nat × Nat)
  F : Nat → Nat → Prop
  M : Nat → Prop
  w : World

def TokOk (E : Env) (t : Tok) (a : Option Addr) (len cap z : Nat) : Prop :=
  match t with
  | .no => True
  | .full => cap = len
  | .tip i => ∃ b n, E.ι i = some (b, n + 1) ∧ len ≤ n ∧ (n = len → match b with
      | none => cap = len
      | some b => a = some ⟨b, 0, none⟩ ∧ cap ≤ maxLen ∧ ∃ cur e, E.w.heap[b]? = some (.cells cur e (0, 0)) ∧ cur.size = cap * z)

def RowOk (E : Env) (i n z o l : Nat) (v : Value) : Prop :=
  (∃ a len cap, v = .slice a len cap) ∧ ∃ b n', E.ι i = some (b, n' + 1) ∧ n ≤ n' ∧
    (n' = n → match b with
      | none => n = 0 ∧ l = 0 ∧ ∃ a, v = .slice a 0 0
      | some b => ∃ cap, v = .slice (some ⟨b, o * z, none⟩) l cap ∧ l ≤ cap ∧ o + l ≤ n ∧ cap ≤ maxLen ∧
          ∃ cur e, E.w.heap[b]? = some (.cells cur e (0, 0)) ∧ cur.size = (o + cap) * z)

def RptrOk (E : Env) (i n off : Nat) (v : Value) : Prop :=
  (∃ a, v = .pointer (some a)) ∧ ∃ b n', E.ι i = some (b, n' + 1) ∧ n ≤ n' ∧ (n' = n → ∃ g, b = some g ∧ v = .pointer (some ⟨g, off, none⟩))

/-- A map of strings to whole numbers. -/
def MapOk (ks : List ByteArray) (m : ByteArray → Int) (ents : List MapEntry) : Prop :=
  ks.Nodup ∧ ents.map (·.key) = ks.map Value.string ∧ ents.map (·.val) = ks.map (fun k => Value.int .i64 (m k)) ∧ ∀ k, k ∉ ks → m k = 0

/-- Values of one cell. -/
def AllOne (vs : List Value) : Prop := ∀ u ∈ vs, u.oneCell' = true

mutual
def VR (E : Env) : V → Value → Prop
  | .int k n, v => v = .int k n
  | .bool b, v => v = .bool b
  | .str s, v => v = .string s
  | .flt b, v => v = .float .f64 b
  | .cpx a b, v => v = .complex .f64 a b
  | .agg cs, v => ∃ vs : Array Value, v = .agg vs ∧ AllOne vs.toList ∧ VRs E cs vs.toList
  | .tup cs, v => ∃ vs : Array Value, v = .tuple vs ∧ VRs E cs vs.toList
  | .sl t z xs, v => ∃ a len cap, v = .slice a len cap ∧ len = xs.length ∧ len ≤ cap ∧
      (xs ≠ [] → ∃ b o, a = some ⟨b, o, none⟩ ∧ ElemsAt E b o z xs) ∧ TokOk E t a len cap z
  | .row i n z o l, v => RowOk E i n z o l v
  | .rptr i n z j f, v => RptrOk E i n (j * z + f) v
  | .cref cs, v => ∃ b o, v = .pointer (some ⟨b, o, none⟩) ∧ CellsAt E b o cs
  | .ptr i off, v => ∃ b, E.ι i = some (some b, 0) ∧ v = .pointer (some ⟨b, off, none⟩)
  | .nilp, v => v = .pointer none
  | .fn f caps, v => ∃ vs : Array Value, v = .func (.func f) #[] vs ∧ VRs E caps vs.toList
  | .nilf, v => v = .nilFunc
  | .map i, v => ∃ b, E.ι i = some (some b, 0) ∧ v = .map (some b)
  | .nilm, v => v = .map none
  | .cmap ks m, v => ∃ b ents clock, v = .map (some b) ∧ E.M b ∧ E.w.heap[b]? = some (.map ents clock) ∧ MapOk ks m ents.toList
  | .iface t x, v => ∃ u, v = .iface t u ∧ VR E x u
  | .nili, v => v = .nilIface
  | .junk, _ => True
def VRs (E : Env) : List V → List Value → Prop
  | [], l => l = []
  | c :: cs, l => ∃ v l', l = v :: l' ∧ VR E c v ∧ VRs E cs l'
def CellsAt (E : Env) (b : Nat) (o : Nat) : List V → Prop
  | [] => True
  | c :: cs => (∃ v, E.w.cell? ⟨b, o, none⟩ = some v ∧ E.F b o ∧ v.oneCell' = true ∧ VR E c v) ∧ CellsAt E b (o + 1) cs
def ElemsAt (E : Env) (b : Nat) (o z : Nat) : List (List V) → Prop
  | [] => True
  | c :: xs => c.length = z ∧ CellsAt E b o c ∧ ElemsAt E b (o + z) z xs
end

/-- What is known stays known. -/
structure Env.le (E E' : Env) : Prop where
  ι : ∀ i b n, E.ι i = some (b, n) → ∃ b' n', E'.ι i = some (b', n') ∧ n ≤ n' ∧ (n' = n → b' = b) ∧ (n = 0 → n' = 0)
  F : ∀ b o, E.F b o → E'.F b o
  cell : ∀ b o, E.F b o → E'.w.cell? ⟨b, o, none⟩ = E.w.cell? ⟨b, o, none⟩
  M : ∀ b, E.M b → E'.M b ∧ E'.w.heap[b]? = E.w.heap[b]?
  shape : ∀ (b : Nat) (cur : Array Value) (e : TypeId), E.w.heap[b]? = some (.cells cur e (0, 0)) → ∃ cur' : Array Value, E'.w.heap[b]? = some (.cells cur' e (0, 0)) ∧ cur'.size = cur.size

theorem Env.le.refl (E : Env) : E.le E :=
  ⟨fun _ b n h => ⟨b, n, h, Nat.le_refl _, fun _ => rfl, fun h => h⟩, fun _ _ h => h, fun _ _ _ => rfl, fun _ h => ⟨h, rfl⟩, fun _ cur _ h => ⟨cur, h, rfl⟩⟩

theorem Env.le.trans {A B C : Env} (h : A.le B) (k : B.le C) : A.le C := by
  refine ⟨fun _ b n hi => ?_, fun b o hf => k.F _ _ (h.F _ _ hf), fun b o hf => (k.cell _ _ (h.F _ _ hf)).trans (h.cell _ _ hf), fun b hm => ?_, fun b cur e hc => ?_⟩
  · obtain ⟨b1, n1, h1, hle1, hb1, hz1⟩ := h.ι _ b n hi
    obtain ⟨b2, n2, h2, hle2, hb2, hz2⟩ := k.ι _ b1 n1 h1
    exact ⟨b2, n2, h2, by omega, fun he => by rw [hb2 (by omega), hb1 (by omega)], fun hz => hz2 (hz1 hz)⟩
  · obtain ⟨h1, h2⟩ := h.M b hm
    obtain ⟨k1, k2⟩ := k.M b h1
    exact ⟨k1, k2.trans h2⟩
  · obtain ⟨c1, h1, h2⟩ := h.shape b cur e hc
    obtain ⟨c2, k1, k2⟩ := k.shape b c1 e h1
    exact ⟨c2, k1, k2.trans h2⟩

theorem TokOk.mono {E E' : Env} (h : E.le E') {t : Tok} {a : Option Addr} {len cap z : Nat} (ht : TokOk E t a len cap z) : TokOk E' t a len cap z := by
  cases t with
  | no => trivial
  | full => exact ht
  | tip i =>
    obtain ⟨b, n, hi, hl, hc⟩ := ht
    obtain ⟨b', n', hi', hle, hb, _⟩ := h.ι i b (n + 1) hi
    obtain ⟨m, rfl⟩ : ∃ m, n' = m + 1 := ⟨n' - 1, by omega⟩
    refine ⟨b', m, hi', by omega, fun he => ?_⟩
    have hn : n = len := by omega
    have hbb : b' = b := hb (by omega)
    subst hbb
    have hc' := hc hn
    cases b' with
    | none => exact hc'
    | some b =>
      obtain ⟨ha, hcap, cur, e, hg, hs⟩ := hc'
      obtain ⟨cur', hg', hs'⟩ := h.shape _ _ _ hg
      exact ⟨ha, hcap, cur', e, hg', hs'.trans hs⟩

theorem RowOk.mono {E E' : Env} (h : E.le E') {i n z o l : Nat} {v : Value} (hr : RowOk E i n z o l v) : RowOk E' i n z o l v := by
  obtain ⟨hv0, b, m, hi, hl, hc⟩ := hr
  obtain ⟨b', n', hi', hle, hb, _⟩ := h.ι i b (m + 1) hi
  obtain ⟨m', rfl⟩ : ∃ m', n' = m' + 1 := ⟨n' - 1, by omega⟩
  refine ⟨hv0, b', m', hi', by omega, fun he => ?_⟩
  have hn : m = n := by omega
  have hbb : b' = b := hb (by omega)
  subst hbb
  have hc' := hc hn
  cases b' with
  | none => exact hc'
  | some b =>
    obtain ⟨cap, hv, h1, h2, h3, cur, e, hg, hs⟩ := hc'
    obtain ⟨cur', hg', hs'⟩ := h.shape _ _ _ hg
    exact ⟨cap, hv, h1, h2, h3, cur', e, hg', hs'.trans hs⟩

theorem RptrOk.mono {E E' : Env} (h : E.le E') {i n off : Nat} {v : Value} (hr : RptrOk E i n off v) : RptrOk E' i n off v := by
  obtain ⟨hv0, b, m, hi, hl, hc⟩ := hr
  obtain ⟨b', n', hi', hle, hb, _⟩ := h.ι i b (m + 1) hi
  obtain ⟨m', rfl⟩ : ∃ m', n' = m' + 1 := ⟨n' - 1, by omega⟩
  refine ⟨hv0, b', m', hi', by omega, fun he => ?_⟩
  have hbb : b' = b := hb (by omega)
  subst hbb
  exact hc (by omega)

mutual
theorem VR.mono' {E E' : Env} (h : E.le E') : (c : V) → (v : Value) → VR E c v → VR E' c v
  | .int _ _, _, hv => by simpa only [VR] using hv
  | .bool _, _, hv => by simpa only [VR] using hv
  | .str _, _, hv => by simpa only [VR] using hv
  | .flt _, _, hv => by simpa only [VR] using hv
  | .cpx _ _, _, hv => by simpa only [VR] using hv
  | .agg cs, _, hv => by
    simp only [VR] at hv ⊢
    obtain ⟨vs, e, h1, hs⟩ := hv
    exact ⟨vs, e, h1, VRs.mono' h cs _ hs⟩
  | .tup cs, _, hv => by
    simp only [VR] at hv ⊢
    obtain ⟨vs, e, hs⟩ := hv
    exact ⟨vs, e, VRs.mono' h cs _ hs⟩
  | .sl t z xs, _, hv => by
    simp only [VR] at hv ⊢
    obtain ⟨a, len, cap, e, hl, hc, hx, ht⟩ := hv
    refine ⟨a, len, cap, e, hl, hc, fun hne => ?_, ht.mono h⟩
    obtain ⟨b, o, ha, he⟩ := hx hne
    exact ⟨b, o, ha, ElemsAt.mono' h b z xs o he⟩
  | .row _ _ _ _ _, _, hv => by simp only [VR] at hv ⊢; exact hv.mono h
  | .rptr _ _ _ _ _, _, hv => by simp only [VR] at hv ⊢; exact hv.mono h
  | .cref cs, _, hv => by
    simp only [VR] at hv ⊢
    obtain ⟨b, o, e, hc⟩ := hv
    exact ⟨b, o, e, CellsAt.mono' h b cs o hc⟩
  | .ptr i off, _, hv => by
    simp only [VR] at hv ⊢
    obtain ⟨b, hi, e⟩ := hv
    obtain ⟨b', n', hi', _, hb, hz⟩ := h.ι i (some b) 0 hi
    obtain rfl := hz rfl
    obtain rfl := hb rfl
    exact ⟨_, hi', e⟩
  | .nilp, _, hv => by simpa only [VR] using hv
  | .fn _ cs, _, hv => by
    simp only [VR] at hv ⊢
    obtain ⟨vs, e, hs⟩ := hv
    exact ⟨vs, e, VRs.mono' h cs _ hs⟩
  | .nilf, _, hv => by simpa only [VR] using hv
  | .map i, _, hv => by
    simp only [VR] at hv ⊢
    obtain ⟨b, hi, e⟩ := hv
    obtain ⟨b', n', hi', _, hb, hz⟩ := h.ι i (some b) 0 hi
    obtain rfl := hz rfl
    obtain rfl := hb rfl
    exact ⟨_, hi', e⟩
  | .nilm, _, hv => by simpa only [VR] using hv
  | .cmap ks m, _, hv => by
    simp only [VR] at hv ⊢
    obtain ⟨b, ents, clock, e, hm, hh, h1⟩ := hv
    obtain ⟨hm', hh'⟩ := h.M b hm
    exact ⟨b, ents, clock, e, hm', hh'.trans hh, h1⟩
  | .iface _ x, _, hv => by
    simp only [VR] at hv ⊢
    obtain ⟨u, e, hs⟩ := hv
    exact ⟨u, e, VR.mono' h x _ hs⟩
  | .nili, _, hv => by simpa only [VR] using hv
  | .junk, _, _ => by simp only [VR]
  termination_by structural c => c
theorem VRs.mono' {E E' : Env} (h : E.le E') : (cs : List V) → (vs : List Value) → VRs E cs vs → VRs E' cs vs
  | [], _, hv => by simpa only [VRs] using hv
  | c :: cs, _, hv => by
    simp only [VRs] at hv ⊢
    obtain ⟨v, l, e, h1, h2⟩ := hv
    exact ⟨v, l, e, VR.mono' h c v h1, VRs.mono' h cs l h2⟩
  termination_by structural cs => cs
theorem CellsAt.mono' {E E' : Env} (h : E.le E') (b : Nat) : (cs : List V) → (o : Nat) → CellsAt E b o cs → CellsAt E' b o cs
  | [], _, _ => by simp only [CellsAt]
  | c :: cs, o, hv => by
    simp only [CellsAt] at hv ⊢
    obtain ⟨⟨v, hc, hf, ho, hr⟩, h2⟩ := hv
    exact ⟨⟨v, (h.cell b o hf).trans hc, h.F b o hf, ho, VR.mono' h c v hr⟩, CellsAt.mono' h b cs _ h2⟩
  termination_by structural cs => cs
theorem ElemsAt.mono' {E E' : Env} (h : E.le E') (b z : Nat) : (xs : List (List V)) → (o : Nat) → ElemsAt E b o z xs → ElemsAt E' b o z xs
  | [], _, _ => by simp only [ElemsAt]
  | c :: xs, o, hv => by
    simp only [ElemsAt] at hv ⊢
    obtain ⟨h1, h2, h3⟩ := hv
    exact ⟨h1, CellsAt.mono' h b c o h2, ElemsAt.mono' h b z xs _ h3⟩
  termination_by structural xs => xs
end
theorem VR.mono {E E' : Env} (h : E.le E') {c : V} {v : Value} (hv : VR E c v) : VR E' c v := VR.mono' h c v hv
theorem VRs.mono {E E' : Env} (h : E.le E') {cs : List V} {vs : List Value} (hv : VRs E cs vs) : VRs E' cs vs := VRs.mono' h cs vs hv
theorem CellsAt.mono {E E' : Env} (h : E.le E') {b o : Nat} {cs : List V} (hv : CellsAt E b o cs) : CellsAt E' b o cs := CellsAt.mono' h b cs o hv
theorem ElemsAt.mono {E E' : Env} (h : E.le E') {b o z : Nat} {xs : List (List V)} (hv : ElemsAt E b o z xs) : ElemsAt E' b o z xs := ElemsAt.mono' h b z xs o hv

/-! ### Lists of cells -/
theorem VRs.length {E : Env} : ∀ {cs : List V} {vs : List Value}, VRs E cs vs → cs.length = vs.length
  | [], _, h => by simp only [VRs] at h; subst h; rfl
  | c :: cs, _, h => by
    simp only [VRs] at h
    obtain ⟨v, l, rfl, _, h2⟩ := h
    simp [h2.length]
theorem VRs.get {E : Env} : ∀ {cs : List V} {vs : List Value}, VRs E cs vs → ∀ {j : Nat} {c : V}, cs[j]? = some c → ∃ v, vs[j]? = some v ∧ VR E c v
  | [], _, _, _, _, hj => by simp at hj
  | c :: cs, _, h, j, d, hj => by
    simp only [VRs] at h
    obtain ⟨v, l, rfl, h1, h2⟩ := h
    cases j with
    | zero => simp at hj; subst hj; exact ⟨v, by simp, h1⟩
    | succ j => simp at hj; simpa using h2.get hj
theorem VRs.mk {E : Env} : ∀ {cs : List V} {vs : List Value}, cs.length = vs.length → (∀ (j : Nat) (c : V) (v : Value), cs[j]? = some c → vs[j]? = some v → VR E c v) → VRs E cs vs
  | [], vs, h, _ => by simp only [VRs]; exact List.eq_nil_of_length_eq_zero h.symm
  | c :: cs, [], h, _ => by simp at h
  | c :: cs, v :: vs, h, hj => by
    simp only [VRs]
    exact ⟨v, vs, rfl, hj 0 c v rfl rfl, VRs.mk (by simpa using h) fun j c v h1 h2 => hj (j + 1) c v (by simpa using h1) (by simpa using h2)⟩
theorem VRs.append {E : Env} : ∀ {cs ds : List V} {vs us : List Value}, VRs E cs vs → VRs E ds us → VRs E (cs ++ ds) (vs ++ us)
  | [], _, _, _, h, k => by simp only [VRs] at h; subst h; simpa using k
  | c :: cs, _, _, _, h, k => by
    simp only [VRs] at h
    obtain ⟨v, l, rfl, h1, h2⟩ := h
    simp only [List.cons_append, VRs]
    exact ⟨v, _, rfl, h1, h2.append k⟩
theorem VRs.take {E : Env} {cs : List V} {vs : List Value} (h : VRs E cs vs) (n : Nat) : VRs E (cs.take n) (vs.take n) :=
  VRs.mk (by simp [h.length]) fun j c v h1 h2 => by
    rw [List.getElem?_take] at h1 h2
    split at h1
    · rename_i hlt
      rw [if_pos hlt] at h2
      obtain ⟨u, hu, hr⟩ := h.get h1
      rw [hu] at h2
      cases h2
      exact hr
    · cases h1
theorem VRs.drop {E : Env} {cs : List V} {vs : List Value} (h : VRs E cs vs) (n : Nat) : VRs E (cs.drop n) (vs.drop n) :=
  VRs.mk (by simp [h.length]) fun j c v h1 h2 => by
    rw [List.getElem?_drop] at h1 h2
    obtain ⟨u, hu, hr⟩ := h.get h1
    rw [hu] at h2
    cases h2
    exact hr
theorem VRs.one {E : Env} {c : V} {v : Value} (h : VR E c v) : VRs E [c] [v] := by
  simp only [VRs]
  exact ⟨v, [], rfl, h, rfl⟩
theorem VRs.singleton {E : Env} {c : V} {vs : List Value} (h : VRs E [c] vs) : ∃ v, vs = [v] ∧ VR E c v := by
  simp only [VRs] at h
  obtain ⟨v, l, rfl, h1, rfl⟩ := h
  exact ⟨v, rfl, h1⟩

theorem CellsAt_iff {E : Env} {b : Nat} : ∀ {cs : List V} {o : Nat}, CellsAt E b o cs ↔
    ∃ vs : List Value, VRs E cs vs ∧ AllOne vs ∧ ∀ j v, vs[j]? = some v → E.w.cell? ⟨b, o + j, none⟩ = some v ∧ E.F b (o + j)
  | [], o => by
    simp only [CellsAt, true_iff]
    exact ⟨[], by simp only [VRs], (by intro u hu; cases hu), by simp⟩
  | c :: cs, o => by
    simp only [CellsAt]
    constructor
    · rintro ⟨⟨v, hc, hf, ho, hr⟩, h2⟩
      obtain ⟨vs, h3, h4, h5⟩ := CellsAt_iff.1 h2
      refine ⟨v :: vs, by simp only [VRs]; exact ⟨v, vs, rfl, hr, h3⟩, ?_, fun j u hu => ?_⟩
      · intro u hu
        cases hu with
        | head => exact ho
        | tail _ hm => exact h4 u hm
      · cases j with
        | zero => simp at hu; subst hu; exact ⟨hc, hf⟩
        | succ j =>
          have := h5 j u (by simpa using hu)
          rwa [Nat.add_assoc, Nat.add_comm 1 j] at this
    · rintro ⟨vs, h1, h2, h3⟩
      simp only [VRs] at h1
      obtain ⟨v, l, rfl, hr, h4⟩ := h1
      have h0 := h3 0 v rfl
      refine ⟨⟨v, h0.1, h0.2, h2 v (by simp), hr⟩, CellsAt_iff.2 ⟨l, h4, fun u hu => h2 u (by simp [hu]), fun j u hu => ?_⟩⟩
      have := h3 (j + 1) u (by simpa using hu)
      rwa [Nat.add_comm j 1, ← Nat.add_assoc] at this
theorem CellsAt.append {E : Env} {b : Nat} : ∀ {cs ds : List V} {o : Nat}, CellsAt E b o (cs ++ ds) ↔ CellsAt E b o cs ∧ CellsAt E b (o + cs.length) ds
  | [], ds, o => by simp [CellsAt]
  | c :: cs, ds, o => by
    simp only [List.cons_append, CellsAt, CellsAt.append (cs := cs), List.length_cons, and_assoc]
    rw [show o + 1 + cs.length = o + (cs.length + 1) by omega]
theorem CellsAt.drop {E : Env} {b o : Nat} {cs : List V} (h : CellsAt E b o cs) (n : Nat) (hn : n ≤ cs.length) : CellsAt E b (o + n) (cs.drop n) := by
  rw [← List.take_append_drop n cs, CellsAt.append] at h
  have := h.2
  rwa [List.length_take, Nat.min_eq_left hn] at this
theorem CellsAt.take {E : Env} {b o : Nat} {cs : List V} (h : CellsAt E b o cs) (n : Nat) : CellsAt E b o (cs.take n) := by
  rw [← List.take_append_drop n cs, CellsAt.append] at h
  exact h.1
theorem ElemsAt_iff {E : Env} {b z : Nat} : ∀ {xs : List (List V)} {o : Nat}, ElemsAt E b o z xs ↔ (∀ c ∈ xs, c.length = z) ∧ CellsAt E b o xs.flatten
  | [], o => by simp [ElemsAt, CellsAt]
  | c :: xs, o => by
    simp only [ElemsAt, List.flatten_cons, CellsAt.append, List.mem_cons, forall_eq_or_imp, ElemsAt_iff (xs := xs)]
    constructor
    · rintro ⟨rfl, h2, h3, h4⟩
      exact ⟨⟨rfl, h3⟩, h2, h4⟩
    · rintro ⟨⟨rfl, h3⟩, h2, h4⟩
      exact ⟨rfl, h2, h3, h4⟩
theorem ElemsAt.get {E : Env} {b z : Nat} : ∀ {xs : List (List V)} {o : Nat}, ElemsAt E b o z xs → ∀ {j : Nat} {c : List V}, xs[j]? = some c → c.length = z ∧ CellsAt E b (o + j * z) c
  | [], _, _, _, _, hj => by simp at hj
  | c :: xs, o, h, j, d, hj => by
    simp only [ElemsAt] at h
    cases j with
    | zero => simp at hj; subst hj; simpa using ⟨h.1, h.2.1⟩
    | succ j =>
      simp at hj
      have := ElemsAt.get h.2.2 hj
      rw [Nat.add_mul, Nat.one_mul, Nat.add_comm (j * z) z, ← Nat.add_assoc]
      exact this
theorem ElemsAt.append {E : Env} {b z : Nat} : ∀ {xs ys : List (List V)} {o : Nat}, ElemsAt E b o z (xs ++ ys) ↔ ElemsAt E b o z xs ∧ ElemsAt E b (o + xs.length * z) z ys
  | [], ys, o => by simp [ElemsAt]
  | c :: xs, ys, o => by
    simp only [List.cons_append, ElemsAt, ElemsAt.append (xs := xs), List.length_cons, and_assoc]
    rw [show o + z + xs.length * z = o + (xs.length + 1) * z by rw [Nat.add_mul]; omega]
theorem ElemsAt.drop {E : Env} {b z o : Nat} {xs : List (List V)} (h : ElemsAt E b o z xs) (n : Nat) (hn : n ≤ xs.length) : ElemsAt E b (o + n * z) z (xs.drop n) := by
  rw [← List.take_append_drop n xs, ElemsAt.append] at h
  have := h.2
  rwa [List.length_take, Nat.min_eq_left hn] at this
theorem ElemsAt.take {E : Env} {b z o : Nat} {xs : List (List V)} (h : ElemsAt E b o z xs) (n : Nat) : ElemsAt E b o z (xs.take n) := by
  rw [← List.take_append_drop n xs, ElemsAt.append] at h
  exact h.1
theorem flatten_len {z : Nat} : ∀ {xs : List (List V)}, (∀ c ∈ xs, c.length = z) → xs.flatten.length = xs.length * z
  | [], _ => by simp
  | c :: xs, h => by
    have h1 := flatten_len (xs := xs) fun d hd => h d (by simp [hd])
    have h2 := h c (by simp)
    simp only [List.flatten_cons, List.length_append, List.length_cons, h1, h2, Nat.add_mul]
    omega
/-- The cells of a slice that is read, as machine values. -/
theorem ElemsAt.vals {E : Env} {b z o : Nat} {xs : List (List V)} (h : ElemsAt E b o z xs) : ∃ vs : List Value, vs.length = xs.length * z ∧ VRs E xs.flatten vs ∧ AllOne vs ∧
    ∀ j v, vs[j]? = some v → E.w.cell? ⟨b, o + j, none⟩ = some v ∧ E.F b (o + j) := by
  obtain ⟨h1, h2⟩ := ElemsAt_iff.1 h
  obtain ⟨vs, h3, h4, h5⟩ := CellsAt_iff.1 h2
  exact ⟨vs, by rw [← h3.length, flatten_len h1], h3, h4, h5⟩
end Go.Proofs.Fathom
