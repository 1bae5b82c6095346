/- A part of the proof of 'Rows.QueryReadUptoSaid': for every text and every seeds (of bulk at most 1048576 together) fathomlaw19.QueryRead returns true and its arguments read afterwards as before. -/
import Derived.Test.YtaikjbfkbijlnaaGreatF03
set_option linter.unusedVariables false
set_option linter.unusedSimpArgs false
namespace Go.Proofs.Fathom
open Go

def upd {α : Type} (f : Nat → α) (i : Nat) (x : α) : Nat → α := fun j => if j = i then x else f j
theorem upd_same {α : Type} (f : Nat → α) (i : Nat) (x : α) : upd f i x i = x := by simp [upd]
theorem upd_ne {α : Type} (f : Nat → α) {i j : Nat} (x : α) (h : j ≠ i) : upd f i x j = f j := by simp [upd, h]
theorem upd_comm {α : Type} (f : Nat → α) {i j : Nat} (x y : α) (h : i ≠ j) : upd (upd f i x) j y = upd (upd f j y) i x := by
  funext k
  unfold upd
  by_cases h1 : k = j
  · by_cases h2 : k = i
    · omega
    · simp [h1, h2, show ¬ j = i from fun e => h e.symm]
  · simp [h1]

structure St where
  sl : Nat → V
  ob : Obs
  nx : Nat
  nt : Nat
  bs : Nat
def St.ev (S : St) : Opd → V
  | .t n => S.sl n
  | .c v => v
def St.put (S : St) (d : Option Nat) (v : V) : St := match d with
  | none => S
  | some d => { S with sl := upd S.sl d v }

/-- How the call began: what was known, the objects that it may change (by name), the first new name. -/
structure Gh where
  E0 : Env
  dom : Nat → Prop
  n0 : Nat
def Gh.mine (G : Gh) (b : Nat) : Prop := ∃ i n, G.dom i ∧ G.E0.ι i = some (some b, n)

structure Fr (G : Gh) (E : Env) : Prop where
  le : G.E0.le E
  os : E.w.os = G.E0.w.os
  tape : E.w.tape = G.E0.w.tape
  output : E.w.output = G.E0.w.output
  size : G.E0.w.heap.size ≤ E.w.heap.size
  block : ∀ b, b < G.E0.w.heap.size → ¬ G.mine b → E.w.heap[b]? = G.E0.w.heap[b]?
  F : ∀ b o, E.F b o → G.E0.F b o ∨ G.mine b ∨ G.E0.w.heap.size ≤ b
  M : ∀ b, E.M b → G.E0.M b ∨ G.mine b ∨ G.E0.w.heap.size ≤ b
  ι : ∀ j, j < G.n0 → ¬ G.dom j → E.ι j = G.E0.ι j
  e0 : ∀ j, G.n0 ≤ j → G.E0.ι j = none

structure Rel (G : Gh) (E : Env) (S : St) (a : Act) : Prop where
  wf : E.wf
  fr : Fr G E
  slots : ∀ t, VR E (S.sl t) (a.tmps.getD t undef)
  sz : a.tmps.size = S.nt
  df : a.defers = []
  ob : SOk E S.ob
  nx : ∀ i, S.nx ≤ i → E.ι i = none
  nn : G.n0 ≤ S.nx
  idm : ∀ i o, S.ob i = some o → G.dom i ∨ G.n0 ≤ i
  mine : ∀ i o b n, S.ob i = some o → E.ι i = some (some b, n) → G.mine b ∨ G.E0.w.heap.size ≤ b
  bs : G.n0 ≤ S.bs

theorem Rel.ev {G : Gh} {E : Env} {S : St} {a : Act} (h : Rel G E S a) : EvOk E S.ev a.eval := by
  intro x y hc
  unfold chkOpd at hc
  split at hc
  · rename_i t n
    have : t = n := by simpa using hc
    subst this
    exact h.slots t
  · exact constOk_sound hc
  · rename_i f g
    have : f = g := by simpa using hc
    subst this
    simp only [St.ev, VR]
    exact ⟨#[], rfl, by simp [VRs]⟩
  · cases hc
theorem Rel.put {G : Gh} {E : Env} {S : St} {a : Act} (h : Rel G E S a) {d : Option Nat} (hd : ∀ k, d = some k → k < S.nt) {c : V} {v : Value} (hv : VR E c v) : Rel G E (S.put d c) (a.put d v) := by
  cases d with
  | none => exact h
  | some d =>
    have hd := hd d rfl
    refine ⟨h.wf, h.fr, fun t => ?_, by simp [Act.put, St.put, h.sz], h.df, h.ob, h.nx, h.nn, h.idm, h.mine, h.bs⟩
    simp only [St.put, upd, Act.put]
    by_cases ht : t = d
    · subst ht
      simp [h.sz, hd]
      exact hv
    · rw [if_neg ht]
      have hne : d ≠ t := fun e => ht e.symm
      have := h.slots t
      rw [Array.getD_eq_getD_getElem?] at this ⊢
      rw [Array.getElem?_setIfInBounds_ne hne]
      exact this
theorem Fr.q {G : Gh} {E E' : Env} (h : Fr G E) (hw : E.wf) (k : E.q E') : Fr G E' := by
  have hs := h.size
  exact ⟨h.le.trans (k.le hw), k.os.trans h.os, k.tape.trans h.tape, k.output.trans h.output, Nat.le_trans h.size k.size,
    fun b hb hm => (k.block b (by omega)).trans (h.block b hb hm),
    fun b o hf => by
      rcases k.Fn b o hf with x | x
      · exact h.F b o x
      · exact .inr (.inr (by omega)),
    fun b hf => by
      rcases k.Mn b hf with x | x
      · exact h.M b x
      · exact .inr (.inr (by omega)),
    fun j hj hd => by rw [k.ι]; exact h.ι j hj hd, h.e0⟩
theorem Rel.q {G : Gh} {E E' : Env} {S : St} {a : Act} (h : Rel G E S a) (k : E.q E') : Rel G E' S a :=
  ⟨k.wf h.wf, h.fr.q h.wf k, fun t => (h.slots t).mono (k.le h.wf), h.sz, h.df, h.ob.q k h.wf, fun i hi => by rw [k.ι]; exact h.nx i hi, h.nn, h.idm,
   fun i o b n hi hb => by rw [k.ι] at hb; exact h.mine i o b n hi hb, h.bs⟩

/-- A step that touches one object's memory alone. -/
structure Env.st (E E' : Env) (i : Nat) : Prop where
  le : E.le E'
  wf : E'.wf
  ι : ∀ j, j ≠ i → E'.ι j = E.ι j
  block : ∀ b, b < E.w.heap.size → (∀ n, E.ι i ≠ some (some b, n)) → E'.w.heap[b]? = E.w.heap[b]?
  F : ∀ b o, E'.F b o → E.F b o ∨ E.w.heap.size ≤ b ∨ ∃ n, E.ι i = some (some b, n)
  M : ∀ b, E'.M b → E.M b ∨ E.w.heap.size ≤ b ∨ ∃ n, E.ι i = some (some b, n)
  size : E.w.heap.size ≤ E'.w.heap.size
  os : E'.w.os = E.w.os
  tape : E'.w.tape = E.w.tape
  output : E'.w.output = E.w.output
  new : ∀ b n, E'.ι i = some (some b, n) → E.w.heap.size ≤ b ∨ ∃ n, E.ι i = some (some b, n)

theorem ObjOk.keep {E E' : Env} (h : E.le E') {j : Nat} {o : AObj} (hι : E'.ι j = E.ι j)
    (hb : ∀ b n, E.ι j = some (some b, n) → E'.w.heap[b]? = E.w.heap[b]? ∧ (∀ o, E'.F b o → E.F b o) ∧ (E'.M b → E.M b)) (ho : ObjOk E j o) : ObjOk E' j o := by
  cases o with
  | cells cs =>
    obtain ⟨b, cur, e, h1, h2, h3, h4, h5⟩ := ho
    obtain ⟨k1, k2, _⟩ := hb b 0 h1
    exact ⟨b, cur, e, by rw [hι]; exact h1, k1.trans h2, h3, h4.mono h, fun o hf => h5 o (k2 o hf)⟩
  | row z xs =>
    obtain ⟨b, h1, h2, h3⟩ := ho
    refine ⟨b, by rw [hι]; exact h1, h2, ?_⟩
    cases b with
    | none => exact h3
    | some b =>
      obtain ⟨cur, e, h4, h5, h6, h7, h8⟩ := h3
      obtain ⟨k1, k2, _⟩ := hb b _ h1
      exact ⟨cur, e, k1.trans h4, h5, h6, h7.mono h, fun o hf => h8 o (k2 o hf)⟩
  | tip z n =>
    obtain ⟨b, h1, h2⟩ := ho
    refine ⟨b, by rw [hι]; exact h1, ?_⟩
    cases b with
    | none => trivial
    | some b =>
      obtain ⟨cur, e, h3, h4⟩ := h2
      obtain ⟨k1, k2, _⟩ := hb b _ h1
      exact ⟨cur, e, k1.trans h3, fun o hf => h4 o (k2 o hf)⟩
  | map ks m =>
    obtain ⟨b, ents, clock, h1, h2, h3, h4⟩ := ho
    obtain ⟨k1, _, k3⟩ := hb b 0 h1
    exact ⟨b, ents, clock, by rw [hι]; exact h1, k1.trans h2, h3, fun hm => h4 (k3 hm)⟩
theorem ObjOk.lt {E : Env} {j : Nat} {o : AObj} (ho : ObjOk E j o) {b n : Nat} (hi : E.ι j = some (some b, n)) : b < E.w.heap.size := by
  cases o with
  | cells cs =>
    obtain ⟨b', cur, e, h1, h2, _⟩ := ho
    rw [hi] at h1
    cases h1
    exact heap_lt h2
  | row z xs =>
    obtain ⟨b', h1, h2, h3⟩ := ho
    rw [hi] at h1
    cases h1
    obtain ⟨cur, e, h4, _⟩ := h3
    exact heap_lt h4
  | tip z n =>
    obtain ⟨b', h1, h2⟩ := ho
    rw [hi] at h1
    cases h1
    obtain ⟨cur, e, h4, _⟩ := h2
    exact heap_lt h4
  | map ks m =>
    obtain ⟨b', ents, clock, h1, h2, _⟩ := ho
    rw [hi] at h1
    cases h1
    exact heap_lt h2
theorem ObjOk.some_ι {E : Env} {j : Nat} {o : AObj} (ho : ObjOk E j o) : ∃ b n, E.ι j = some (b, n) := by
  cases o with
  | cells cs => obtain ⟨b', cur, e, h1, h2, _⟩ := ho; exact ⟨_, _, h1⟩
  | row z xs => obtain ⟨b', h1, _⟩ := ho; exact ⟨_, _, h1⟩
  | tip z n => obtain ⟨b', h1, _⟩ := ho; exact ⟨_, _, h1⟩
  | map ks m => obtain ⟨b', ents, clock, h1, h2, _⟩ := ho; exact ⟨_, _, h1⟩

theorem SOk.st {E E' : Env} {ob : Obs} {i : Nat} (hs : SOk E ob) (h : E.st E' i) (hi : (∃ o, ob i = some o) ∨ E.ι i = none) {o' : AObj} (ho : ObjOk E' i o') : SOk E' (upd ob i (some o')) := by
  have keep : ∀ j o, j ≠ i → ob j = some o → ∀ b n, E.ι j = some (some b, n) → b < E.w.heap.size ∧ ∀ n, E.ι i ≠ some (some b, n) := by
    intro j o hj hob b n hb
    refine ⟨(hs.ok j o hob).lt hb, fun m hm => ?_⟩
    rcases hi with ⟨oi, hoi⟩ | hi
    · exact hj (hs.inj j i o oi b n m hob hoi hb hm)
    · rw [hi] at hm; cases hm
  refine ⟨fun j o hj => ?_, fun j k oj ok b n m hj hk hbj hbk => ?_⟩
  · by_cases hji : j = i
    · subst hji
      rw [upd_same] at hj
      cases hj
      exact ho
    · rw [upd_ne _ _ hji] at hj
      refine (hs.ok j o hj).keep h.le (h.ι j hji) fun b n hb => ?_
      obtain ⟨k1, k2⟩ := keep j o hji hj b n hb
      refine ⟨h.block b k1 k2, fun o hf => ?_, fun hm => ?_⟩
      · rcases h.F b o hf with x | x | ⟨m, x⟩
        · exact x
        · omega
        · exact absurd x (k2 m)
      · rcases h.M b hm with x | x | ⟨m, x⟩
        · exact x
        · omega
        · exact absurd x (k2 m)
  · by_cases hji : j = i
    · by_cases hki : k = i
      · rw [hji, hki]
      · subst hji
        rw [upd_ne _ _ hki] at hk
        rw [h.ι k hki] at hbk
        obtain ⟨k1, k2⟩ := keep k ok hki hk b m hbk
        rcases h.new b n hbj with x | ⟨q, x⟩
        · omega
        · exact absurd x (k2 q)
    · rw [upd_ne _ _ hji] at hj
      rw [h.ι j hji] at hbj
      obtain ⟨k1, k2⟩ := keep j oj hji hj b n hbj
      by_cases hki : k = i
      · subst hki
        rcases h.new b m hbk with x | ⟨q, x⟩
        · omega
        · exact absurd x (k2 q)
      · rw [upd_ne _ _ hki] at hk
        rw [h.ι k hki] at hbk
        exact hs.inj j k oj ok b n m hj hk hbj hbk
theorem Rel.st {G : Gh} {E E' : Env} {S : St} {a : Act} {i : Nat} (h : Rel G E S a) (k : E.st E' i) (hi : (∃ o, S.ob i = some o) ∨ (E.ι i = none ∧ S.nx ≤ i)) {o' : AObj} (ho : ObjOk E' i o') {nx' : Nat} (hn : S.nx ≤ nx') (hin : i < nx') :
    Rel G E' { S with ob := upd S.ob i (some o'), nx := nx' } a := by
  have hfs := h.fr.size
  have hks := k.size
  have hnn := h.nn
  have hi' : (∃ o, S.ob i = some o) ∨ E.ι i = none := hi.imp id (·.1)
  have hid : G.dom i ∨ G.n0 ≤ i := by
    rcases hi with ⟨o, hi⟩ | ⟨_, hi⟩
    · exact h.idm i o hi
    · exact .inr (by omega)
  have hmi : ∀ b, (∃ n, E.ι i = some (some b, n)) → G.mine b ∨ G.E0.w.heap.size ≤ b := by
    rintro b ⟨n, hb⟩
    rcases hi' with ⟨o, hi⟩ | hi
    · exact h.mine i o b n hi hb
    · rw [hi] at hb; cases hb
  refine ⟨k.wf, ⟨h.fr.le.trans k.le, k.os.trans h.fr.os, k.tape.trans h.fr.tape, k.output.trans h.fr.output, by omega, fun b hb hm => ?_, fun b o hf => ?_, fun b hf => ?_, fun j hj hd => ?_, h.fr.e0⟩,
    fun t => (h.slots t).mono k.le, h.sz, h.df, h.ob.st k hi' ho, fun j hj => ?_, by simp only; omega, fun j o hj => ?_, fun j o b n hj hb => ?_, h.bs⟩
  · refine (k.block b (by omega) fun n hn' => ?_).trans (h.fr.block b hb hm)
    rcases hmi b ⟨n, hn'⟩ with x | x
    · exact hm x
    · omega
  · rcases k.F b o hf with x | x | x
    · exact h.fr.F b o x
    · exact .inr (.inr (by omega))
    · exact .inr (hmi b x)
  · rcases k.M b hf with x | x | x
    · exact h.fr.M b x
    · exact .inr (.inr (by omega))
    · exact .inr (hmi b x)
  · have hne : j ≠ i := by
      intro e
      subst e
      rcases hid with x | x
      · exact hd x
      · omega
    rw [k.ι j hne]
    exact h.fr.ι j hj hd
  · simp only at hj
    rw [k.ι j (by omega)]
    exact h.nx j (by omega)
  · by_cases hji : j = i
    · subst hji
      exact hid
    · simp only at hj
      rw [upd_ne _ _ hji] at hj
      exact h.idm j o hj
  · by_cases hji : j = i
    · subst hji
      rcases k.new b n hb with x | x
      · exact .inr (by omega)
      · exact hmi b x
    · simp only at hj
      rw [upd_ne _ _ hji] at hj
      rw [k.ι j hji] at hb
      exact h.mine j o b n hj hb
end Go.Proofs.Fathom
