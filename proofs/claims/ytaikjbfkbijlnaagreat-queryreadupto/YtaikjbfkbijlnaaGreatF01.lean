/- A part of the proof of 'Rows.QueryReadUptoSaid': for every text and every seeds (of bulk at most 1048576 together) fathomlaw19.QueryRead returns true and its arguments read afterwards as before. -/
import Derived.Test.YtaikjbfkbijlnaaGreatF00
namespace Go.Proofs.Fathom
open Go

inductive AObj where
  | cells (cs : List V)
  | row (z : Nat) (xs : List (List V))
  | tip (z n : Nat)
  | map (ks : List ByteArray) (m : ByteArray → Int)

def ObjOk (E : Env) (i : Nat) : AObj → Prop
  | .cells cs => ∃ (b : Nat) (cur : Array Value) (e : TypeId), E.ι i = some (some b, 0) ∧ E.w.heap[b]? = some (.cells cur e (0, 0)) ∧ AllOne cur.toList ∧ VRs E cs cur.toList ∧ ∀ o, ¬ E.F b o
  | .row z xs => ∃ b, E.ι i = some (b, xs.length + 1) ∧ (∀ c ∈ xs, c.length = z) ∧ match b with
    | none => xs = []
    | some b => ∃ (cur : Array Value) (e : TypeId), E.w.heap[b]? = some (.cells cur e (0, 0)) ∧ xs.length * z ≤ cur.size ∧
        AllOne (cur.toList.take (xs.length * z)) ∧ VRs E xs.flatten (cur.toList.take (xs.length * z)) ∧ ∀ o, ¬ E.F b o
  | .tip z n => ∃ b, E.ι i = some (b, n + 1) ∧ match b with
    | none => True
    | some b => ∃ (cur : Array Value) (e : TypeId), E.w.heap[b]? = some (.cells cur e (0, 0)) ∧ ∀ o, E.F b o → o < n * z
  | .map ks m => ∃ (b : Nat) (ents : Array MapEntry) (clock : Nat), E.ι i = some (some b, 0) ∧ E.w.heap[b]? = some (.map ents clock) ∧ MapOk ks m ents.toList ∧ ¬ E.M b

abbrev Obs := Nat → Option AObj

structure SOk (E : Env) (ob : Obs) : Prop where
  ok : ∀ i o, ob i = some o → ObjOk E i o
  inj : ∀ i j o o' b n m, ob i = some o → ob j = some o' → E.ι i = some (some b, n) → E.ι j = some (some b, m) → i = j

structure Env.wf (E : Env) : Prop where
  F : ∀ b o, E.F b o → b < E.w.heap.size
  M : ∀ b, E.M b → b < E.w.heap.size
  K : ∀ b, E.M b → ∃ (ents : Array MapEntry) (clock : Nat), E.w.heap[b]? = some (.map ents clock)

/-- New memory, perhaps frozen; all else as it was. -/
structure Env.q (E E' : Env) : Prop where
  ι : E'.ι = E.ι
  F : ∀ b o, E.F b o → E'.F b o
  Fn : ∀ b o, E'.F b o → E.F b o ∨ (E.w.heap.size ≤ b ∧ b < E'.w.heap.size)
  M : ∀ b, E.M b → E'.M b
  Mn : ∀ b, E'.M b → E.M b ∨ (E.w.heap.size ≤ b ∧ b < E'.w.heap.size)
  K : ∀ b, E'.M b → E.M b ∨ ∃ (ents : Array MapEntry) (clock : Nat), E'.w.heap[b]? = some (.map ents clock)
  size : E.w.heap.size ≤ E'.w.heap.size
  block : ∀ b, b < E.w.heap.size → E'.w.heap[b]? = E.w.heap[b]?
  os : E'.w.os = E.w.os
  tape : E'.w.tape = E.w.tape
  output : E'.w.output = E.w.output

theorem Env.q.refl (E : Env) : E.q E :=
  ⟨rfl, fun _ _ h => h, fun _ _ h => .inl h, fun _ h => h, fun _ h => .inl h, fun _ h => .inl h, Nat.le_refl _, fun _ _ => rfl, rfl, rfl, rfl⟩
theorem Env.q.trans {A B C : Env} (h : A.q B) (k : B.q C) : A.q C where
  ι := k.ι.trans h.ι
  F := fun b o x => k.F b o (h.F b o x)
  Fn := fun b o x => by
    have hs := h.size
    have ks := k.size
    rcases k.Fn b o x with y | y
    · rcases h.Fn b o y with z | z
      · exact .inl z
      · exact .inr ⟨z.1, by omega⟩
    · exact .inr ⟨by omega, y.2⟩
  M := fun b x => k.M b (h.M b x)
  Mn := fun b x => by
    have hs := h.size
    have ks := k.size
    rcases k.Mn b x with y | y
    · rcases h.Mn b y with z | z
      · exact .inl z
      · exact .inr ⟨z.1, by omega⟩
    · exact .inr ⟨by omega, y.2⟩
  K := fun b x => by
    rcases k.K b x with y | y
    · rcases h.K b y with z | ⟨ents, clock, z⟩
      · exact .inl z
      · exact .inr ⟨ents, clock, by rw [k.block b (Array.getElem?_eq_some_iff.1 z).1]; exact z⟩
    · exact .inr y
  size := Nat.le_trans h.size k.size
  block := fun b hb => (k.block b (Nat.lt_of_lt_of_le hb h.size)).trans (h.block b hb)
  os := k.os.trans h.os
  tape := k.tape.trans h.tape
  output := k.output.trans h.output
theorem Env.q.wf {E E' : Env} (h : E.q E') (hw : E.wf) : E'.wf :=
  ⟨fun b o x => by
    have hs := h.size
    rcases h.Fn b o x with y | y
    · have := hw.F b o y; omega
    · exact y.2,
   fun b x => by
    have hs := h.size
    rcases h.Mn b x with y | y
    · have := hw.M b y; omega
    · exact y.2,
   fun b x => by
    rcases h.K b x with y | y
    · obtain ⟨ents, clock, z⟩ := hw.K b y
      exact ⟨ents, clock, by rw [h.block b (hw.M b y)]; exact z⟩
    · exact y⟩
theorem Env.q.le {E E' : Env} (h : E.q E') (hw : E.wf) : E.le E' where
  ι := fun i b n hi => ⟨b, n, by rw [h.ι]; exact hi, Nat.le_refl _, fun _ => rfl, fun x => x⟩
  F := h.F
  cell := fun b o x => World.cell?_of_block (w := E.w) (w' := E'.w) (a := ⟨b, o, none⟩) (h.block b (hw.F b o x))
  M := fun b x => ⟨h.M b x, h.block b (hw.M b x)⟩
  shape := fun b cur e hc => ⟨cur, by rw [h.block b (Array.getElem?_eq_some_iff.1 hc).1]; exact hc, rfl⟩
theorem heap_lt {w : World} {b : Nat} {o : Obj} (h : w.heap[b]? = some o) : b < w.heap.size := (Array.getElem?_eq_some_iff.1 h).1
theorem ObjOk.q {E E' : Env} (h : E.q E') (hw : E.wf) {i : Nat} {o : AObj} (ho : ObjOk E i o) : ObjOk E' i o := by
  have hl := h.le hw
  have nf : ∀ b, b < E.w.heap.size → (∀ o, ¬ E.F b o) → ∀ o, ¬ E'.F b o := fun b hb hn o hf => by
    rcases h.Fn b o hf with y | y
    · exact hn o y
    · omega
  cases o with
  | cells cs =>
    obtain ⟨b, cur, e, h1, h2, h3, h4, h5⟩ := ho
    exact ⟨b, cur, e, by rw [h.ι]; exact h1, by rw [h.block b (heap_lt h2)]; exact h2, h3, h4.mono hl, nf b (heap_lt h2) h5⟩
  | row z xs =>
    obtain ⟨b, h1, h2, h3⟩ := ho
    refine ⟨b, by rw [h.ι]; exact h1, h2, ?_⟩
    cases b with
    | none => exact h3
    | some b =>
      obtain ⟨cur, e, h4, h5, h6, h7, h8⟩ := h3
      exact ⟨cur, e, by rw [h.block b (heap_lt h4)]; exact h4, h5, h6, h7.mono hl, nf b (heap_lt h4) h8⟩
  | tip z n =>
    obtain ⟨b, h1, h2⟩ := ho
    refine ⟨b, by rw [h.ι]; exact h1, ?_⟩
    cases b with
    | none => trivial
    | some b =>
      obtain ⟨cur, e, h3, h4⟩ := h2
      refine ⟨cur, e, by rw [h.block b (heap_lt h3)]; exact h3, fun o hf => ?_⟩
      rcases h.Fn b o hf with y | y
      · exact h4 o y
      · have := heap_lt h3; omega
  | map ks m =>
    obtain ⟨b, ents, clock, h1, h2, h3, h4⟩ := ho
    refine ⟨b, ents, clock, by rw [h.ι]; exact h1, by rw [h.block b (heap_lt h2)]; exact h2, h3, fun hm => ?_⟩
    rcases h.Mn b hm with y | y
    · exact h4 y
    · have := heap_lt h2; omega
theorem SOk.q {E E' : Env} (h : E.q E') (hw : E.wf) {ob : Obs} (hs : SOk E ob) : SOk E' ob :=
  ⟨fun i o hi => (hs.ok i o hi).q h hw, fun i j o o' b n m hi hj h1 h2 => by rw [h.ι] at h1 h2; exact hs.inj i j o o' b n m hi hj h1 h2⟩

/-- The world grows by one block, some of whose cells may be frozen at once. -/
def Env.grow (E : Env) (o : Obj) (fz : Nat → Prop) : Env :=
  { E with w := E.w.alloc o, F := fun b k => E.F b k ∨ (b = E.w.heap.size ∧ fz k) }
theorem Env.q_grow (E : Env) (o : Obj) (fz : Nat → Prop) : E.q (E.grow o fz) where
  ι := rfl
  F := fun _ _ h => .inl h
  Fn := fun b k h => by
    rcases h with h | ⟨rfl, _⟩
    · exact .inl h
    · exact .inr ⟨Nat.le_refl _, by simp [Env.grow]⟩
  M := fun _ h => h
  Mn := fun _ h => .inl h
  K := fun _ h => .inl h
  size := by simp [Env.grow]
  block := fun b hb => heap_alloc_old E.w o b hb
  os := rfl
  tape := rfl
  output := rfl
theorem CellsAt.grown {E : Env} (hw : E.wf) {cs : List V} {vs : List Value} (h : VRs E cs vs) (h1 : AllOne vs) (e : TypeId) :
    CellsAt (E.grow (.cells vs.toArray e) (fun _ => True)) E.w.heap.size 0 cs := by
  refine CellsAt_iff.2 ⟨vs, h.mono ((Env.q_grow E _ _).le hw), h1, fun j v hv => ⟨?_, .inr ⟨rfl, trivial⟩⟩⟩
  show (E.w.alloc (.cells vs.toArray e)).cell? _ = _
  rw [cell_of_row (E.w.alloc (.cells vs.toArray e)) E.w.heap.size (0 + j) vs.toArray e (0, 0) (heap_alloc_new E.w _)]
  simpa using hv

def V.one : V → Bool
  | .agg _ | .tup _ | .junk => false
  | _ => true
def V.cells : V → List V
  | .agg cs => cs
  | x => [x]
/-- May it be stored? -/
def V.okc : V → Bool
  | .agg _ => true
  | x => x.one
theorem VR.oneCell {E : Env} {c : V} {v : Value} (h : VR E c v) (h1 : c.one = true) : v.oneCell' = true := by
  cases c <;> simp only [V.one, Bool.false_eq_true] at h1 <;> simp only [VR, RowOk, RptrOk] at h
  case sl => obtain ⟨_, _, _, rfl, _⟩ := h; rfl
  case row => obtain ⟨⟨_, _, _, rfl⟩, _⟩ := h; rfl
  case rptr => obtain ⟨⟨_, rfl⟩, _⟩ := h; rfl
  case cref => obtain ⟨_, _, rfl, _⟩ := h; rfl
  case ptr => obtain ⟨_, _, rfl⟩ := h; rfl
  case fn => obtain ⟨_, rfl, _⟩ := h; rfl
  case map => obtain ⟨_, _, rfl⟩ := h; rfl
  case cmap => obtain ⟨_, _, _, rfl, _⟩ := h; rfl
  case iface => obtain ⟨_, rfl, _⟩ := h; rfl
  all_goals (subst h; rfl)

theorem VR.stored {E : Env} {c : V} {v : Value} (h : VR E c v) (h1 : c.okc = true) : AllOne v.cells.toList ∧ VRs E c.cells v.cells.toList := by
  by_cases ha : ∃ cs, c = .agg cs
  · obtain ⟨cs, rfl⟩ := ha
    simp only [VR] at h
    obtain ⟨vs, rfl, h2, h3⟩ := h
    exact ⟨h2, h3⟩
  · have hone : c.one = true := by
      cases c <;> first | exact h1 | exact absurd ⟨_, rfl⟩ ha
    have h3 := h.oneCell hone
    have hc : c.cells = [c] := by
      cases c <;> first | rfl | exact absurd ⟨_, rfl⟩ ha
    have hv : v.cells = #[v] := by
      cases v <;> first | rfl | (simp [Value.oneCell'] at h3)
    rw [hc, hv]
    exact ⟨fun u hu => by simp at hu; subst hu; exact h3, VRs.one h⟩

/-! ### Operands and operations -/
inductive Opd where
  | t (n : Nat)
  | c (v : V)

inductive TK where
  | num | bool | ptr | other
  deriving DecidableEq

inductive AOp where
  | mv (x : Opd)
  | pick (c x y : Opd)
  | ld (n : Nat) (g : Bool) (x : Opd)
  | fa (off : Nat) (x : Opd)
  | fld (off n : Nat) (g : Bool) (x : Opd)
  | chk (x : Opd)
  | bin (op : BinOp) (tk : TK) (x y : Opd)
  | not (x : Opd)
  | neg (x : Opd)
  | com (x : Opd)
  | cvi (k : IntKind) (x : Opd)
  | b2s (x : Opd)
  | ext (x : Opd) (i : Nat)
  | len (x : Opd)
  | lens (x : Opd)
  | ix (z : Nat) (x i : Opd)
  | ixs (x i : Opd)
  | slc (z : Nat) (x : Opd) (lo hi mx : Option Opd)
  | slcs (x : Opd) (lo hi : Option Opd)
  | bld (zero : List V) (parts : List (Nat × Nat × Opd))
  | bsl (z : Nat) (parts : List Opd)
  | box (x : Opd)
  | call (f : FuncId) (args : List Opd)
  | mm (mx : Bool) (x : Opd) (rest : List Opd)
  | mkf (f : FuncId) (caps : List Opd)
  | mki (t : TypeId) (x : Opd)
  | lk (x k : Opd)
  | cvf (x : Opd)
  | lnd (f : FuncId) (args : List Opd)
  | cpx (x y : Opd)
  | mkz (z by_ : Nat) (zero : List V) (n : Opd)
  | slr (z : Nat) (x hi : Opd)

def constOk : Value → V → Bool
  | .int k n, .int k' m => k == k' && n == m
  | .bool b, .bool c => b == c
  | .string s, .str t => decide (s = t)
  | .slice none 0 0, .sl .full _ [] => true
  | .pointer none, .nilp => true
  | .map none, .nilm => true
  | .nilFunc, .nilf => true
  | .nilIface, .nili => true
  | .complex .f64 a b, .cpx c d => a == c && b == d
  | .float .f64 a, .flt c => a == c
  | _, _ => false
theorem constOk_sound {E : Env} {v : Value} {c : V} (h : constOk v c = true) : VR E c v := by
  unfold constOk at h
  split at h <;> simp only [Bool.false_eq_true, Bool.and_eq_true, beq_iff_eq, decide_eq_true_eq] at h <;> simp only [VR]
  · obtain ⟨rfl, rfl⟩ := h; rfl
  · rw [h]
  · rw [h]
  · exact ⟨none, 0, 0, rfl, rfl, Nat.le_refl _, fun h => absurd rfl h, rfl⟩
  · obtain ⟨rfl, rfl⟩ := h; rfl
  · rw [h]

def chkOpd : Operand → Opd → Bool
  | .tmp t, .t n => t == n
  | .const v, .c c => constOk v c
  | .func f, .c (.fn g []) => f == g
  | _, _ => false
def chkOpds : List Operand → List Opd → Bool
  | [], [] => true
  | x :: xs, y :: ys => chkOpd x y && chkOpds xs ys
  | _, _ => false
def chkOpdO : Option Operand → Option Opd → Bool
  | none, none => true
  | some x, some y => chkOpd x y
  | _, _ => false

/-- Abstract values of operands and machine values of operands fit. -/
def EvOk (E : Env) (ρ : Opd → V) (ev : Operand → Value) : Prop := ∀ x y, chkOpd x y = true → VR E (ρ y) (ev x)
theorem EvOk.list {E : Env} {ρ : Opd → V} {ev : Operand → Value} (h : EvOk E ρ ev) : ∀ {xs : List Operand} {ys : List Opd}, chkOpds xs ys = true → VRs E (ys.map ρ) (xs.map ev)
  | [], [], _ => by simp only [List.map_nil, VRs]
  | x :: xs, y :: ys, hc => by
    simp only [chkOpds, Bool.and_eq_true] at hc
    simp only [List.map_cons, VRs]
    exact ⟨_, _, rfl, h x y hc.1, h.list hc.2⟩
  | [], _ :: _, hc => by simp [chkOpds] at hc
  | _ :: _, [], hc => by simp [chkOpds] at hc

/-- The value of n cells as one. -/
def ldv (g : Bool) (n : Nat) (cs : List V) : V := if g then .agg (cs.take n) else cs.headD .junk

/-- Parts laid over cells. -/
def fillv : List V → List (Nat × V) → List V
  | cs, [] => cs
  | cs, (off, v) :: r => fillv (cs.take off ++ v.cells ++ cs.drop (off + v.cells.length)) r

def bitsv (op : BinOp) (k : IntKind) (x y : Int) : Int :=
  let a := BitVec.ofInt k.bits x
  let b := BitVec.ofInt k.bits y
  match op with
  | .and => k.wrap (a &&& b).toNat
  | .or => k.wrap (a ||| b).toNat
  | .xor => k.wrap (a ^^^ b).toNat
  | .andNot => k.wrap (a &&& ~~~b).toNat
  | _ => 0

def intq (op : BinOp) (k : IntKind) (a b : Int) (K : V → Prop) : Prop :=
  match op with
  | .add => K (.int k (k.wrap (a + b)))
  | .sub => K (.int k (k.wrap (a - b)))
  | .mul => K (.int k (k.wrap (a * b)))
  | .quo => b ≠ 0 ∧ K (.int k (k.wrap (a.tdiv b)))
  | .rem => b ≠ 0 ∧ K (.int k (a.tmod b))
  | .and => K (.int k (bitsv .and k a b))
  | .or => K (.int k (bitsv .or k a b))
  | .xor => K (.int k (bitsv .xor k a b))
  | .andNot => K (.int k (bitsv .andNot k a b))
  | .shl => 0 ≤ b ∧ K (.int k (k.wrap (a * 2 ^ (min b.toNat k.bits))))
  | .shr => 0 ≤ b ∧ K (.int k (a.fdiv (2 ^ (min b.toNat k.bits))))
  | .eql => K (.bool (decide (a = b)))
  | .neq => K (.bool (!decide (a = b)))
  | .lss => K (.bool (decide (a < b)))
  | .leq => K (.bool (decide (a ≤ b)))
  | .gtr => K (.bool (decide (b < a)))
  | .geq => K (.bool (decide (b ≤ a)))

def strq (op : BinOp) (a b : ByteArray) (K : V → Prop) : Prop :=
  match op with
  | .add => a.size + b.size ≤ 9223372036854775807 ∧ K (.str (a ++ b))
  | .eql => K (.bool (decide (a = b)))
  | .neq => K (.bool (!decide (a = b)))
  | .lss => K (.bool (Op.bytesLess a.toList b.toList))
  | .gtr => K (.bool (!(Op.bytesLess a.toList b.toList || decide (a = b))))
  | _ => False

def binq (op : BinOp) (tk : TK) (x y : V) (K : V → Prop) : Prop :=
  match x, y with
  | .int k a, .int k' b => (k = k' ∨ op = .shl ∨ op = .shr) ∧ intq op k a b K
  | .str a, .str b => strq op a b K
  | .bool a, .bool b => tk = .bool ∧ (match op with | .eql => K (.bool (a == b)) | .neq => K (.bool (!(a == b))) | _ => False)
  | .nilp, .nilp => tk = .ptr ∧ (match op with | .eql => K (.bool true) | .neq => K (.bool false) | _ => False)
  | .cref _, .nilp => tk = .ptr ∧ (match op with | .eql => K (.bool false) | .neq => K (.bool true) | _ => False)
  | _, _ => False

/-- A call that leaves the objects alone. -/
def okFn (P : Program) (f : FuncId) : Bool := match P.funcs[f]? with
  | some fn => !(fn.name == "runtime.NumGoroutine") && fn.body.isSome
  | none => false
def QSpec (P : Program) (ob : Obs) (f : FuncId) (args : List V) (r : V) : Prop :=
  okFn P f = true ∧ ∀ (E : Env) (vals : List Value), E.wf → (∃ n, ∀ j, n ≤ j → E.ι j = none) → SOk E ob → VRs E args vals →
    Calls P f vals.toArray E.w fun e w' => ∃ v E', e = .returned v ∧ E'.w = w' ∧ E.q E' ∧ VR E' r v

/-- Values that hold no memory. -/
def V.flat1 : V → Bool
  | .int _ _ | .bool _ | .str _ | .flt _ | .cpx _ _ => true
  | _ => false
def V.flat : V → Bool
  | .tup cs => cs.all V.flat1
  | .agg cs => cs.all V.flat1
  | v => v.flat1
/-- A row that is lent: a list, for the time of a call. -/
def lend1 (ob : Obs) : V → Option V
  | .row i n z o l => match ob i with
    | some (.row z' xs) => if z' = z ∧ xs.length = n then some (.sl .no z ((xs.take (o + l)).drop o)) else none
    | _ => none
  | v => some v
def lends (ob : Obs) : List V → Option (List V)
  | [] => some []
  | v :: vs => match lend1 ob v, lends ob vs with
    | some w, some ws => some (w :: ws)
    | _, _ => none
def lov (ρ : Opd → V) (lo : Option Opd) : Option Int := match lo with
  | none => some 0
  | some x => match ρ x with | .int _ n => some n | _ => none
def hiv (ρ : Opd → V) (len : Nat) (hi : Option Opd) : Option Int := match hi with
  | none => some (len : Int)
  | some x => match ρ x with | .int _ n => some n | _ => none

def mm2 (mx : Bool) (x y : V) : V := match x, y with
  | .int k a, .int _ b => .int k (if mx then max a b else min a b)
  | _, _ => .junk
def V.isInt : V → Bool
  | .int _ _ => true
  | _ => false

def aq (P : Program) (ρ : Opd → V) (ob : Obs) (K : V → Prop) : AOp → Prop
  | .mv x => K (ρ x)
  | .pick c x y => match ρ c with
    | .bool t => (t = true → K (ρ x)) ∧ (t = false → K (ρ y))
    | _ => False
  | .ld n g x => match ρ x with
    | .cref cs => n ≤ cs.length ∧ K (ldv g n cs)
    | .ptr i off => ∃ cs, ob i = some (.cells cs) ∧ off + n ≤ cs.length ∧ K (ldv g n (cs.drop off))
    | .rptr i m z j f => ∃ xs c, ob i = some (.row z xs) ∧ xs.length = m ∧ xs[j]? = some c ∧ f + n ≤ c.length ∧ K (ldv g n (c.drop f))
    | _ => False
  | .fa off x => match ρ x with
    | .cref cs => off ≤ cs.length ∧ K (.cref (cs.drop off))
    | .ptr i o => K (.ptr i (o + off))
    | .rptr i n z j f => K (.rptr i n z j (f + off))
    | _ => False
  | .fld off n g x => match ρ x with
    | .agg cs => off + n ≤ cs.length ∧ K (ldv g n (cs.drop off))
    | _ => False
  | .chk x => match ρ x with
    | .cref cs => K (.cref cs)
    | .ptr i o => K (.ptr i o)
    | .fn f cs => K (.fn f cs)
    | _ => False
  | .bin op tk x y => binq op tk (ρ x) (ρ y) K
  | .not x => match ρ x with
    | .bool b => K (.bool (!b))
    | _ => False
  | .neg x => match ρ x with
    | .int k n => K (.int k (k.wrap (0 - n)))
    | _ => False
  | .com x => match ρ x with
    | .int k n => K (.int k (bitsv .xor k (if k.signed then -1 else k.max) n))
    | _ => False
  | .cvi k x => match ρ x with
    | .int _ n => K (.int k (k.wrap n))
    | _ => False
  | .b2s x => match ρ x with
    | .sl _ _ xs => ∃ bs : List Int, xs = bs.map (fun b => [V.int .u8 b]) ∧ K (.str (strOfNums bs))
    | _ => False
  | .ext x i => match ρ x with
    | .tup vs => ∃ v, vs[i]? = some v ∧ K v
    | _ => False
  | .len x => match ρ x with
    | .sl _ _ xs => K (.int .i64 xs.length)
    | .row i n z _ l => (∃ xs, ob i = some (.row z xs) ∧ xs.length = n) ∧ K (.int .i64 l)
    | _ => False
  | .lens x => match ρ x with
    | .str s => K (.int .i64 s.size)
    | _ => False
  | .ix z x i => match ρ x, ρ i with
    | .sl _ z' xs, .int _ n => z' = z ∧ 0 ≤ n ∧ ∃ c, xs[n.toNat]? = some c ∧ K (.cref c)
    | .row i n z' o l, .int _ k => (∃ xs, ob i = some (.row z' xs) ∧ xs.length = n) ∧ z' = z ∧ 0 ≤ k ∧ k < l ∧ K (.rptr i n z (o + k.toNat) 0)
    | _, _ => False
  | .ixs x i => match ρ x, ρ i with
    | .str s, .int _ n => 0 ≤ n ∧ ∃ b, s[n.toNat]? = some b ∧ K (.int .u8 b.toNat)
    | _, _ => False
  | .slc z x lo hi mx => match ρ x with
    | .sl t z' xs => z' = z ∧ ∃ l h : Int, lov ρ lo = some l ∧ hiv ρ xs.length hi = some h ∧ 0 ≤ l ∧ l ≤ h ∧ h ≤ xs.length ∧
        (match mx with
         | none => K (.sl (match t, hi with | .full, none => .full | _, _ => .no) z ((xs.take h.toNat).drop l.toNat))
         | some m => (match ρ m with | .int _ m => m = h ∧ hi ≠ none | _ => False) ∧ K (.sl .full z ((xs.take h.toNat).drop l.toNat)))
    | _ => False
  | .slcs x lo hi => match ρ x with
    | .str s => ∃ l h : Int, lov ρ lo = some l ∧ hiv ρ s.size hi = some h ∧ 0 ≤ l ∧ l ≤ h ∧ h ≤ s.size ∧ K (.str (s.extract l.toNat h.toNat))
    | _ => False
  | .bld zero parts => (∀ p ∈ parts, (ρ p.2.2).cells.length = p.2.1 ∧ (ρ p.2.2).okc = true) ∧ (∀ p ∈ parts, p.1 + p.2.1 ≤ zero.length) ∧ K (.agg (fillv zero (parts.map fun p => (p.1, ρ p.2.2))))
  | .bsl z parts => (∀ p ∈ parts, (ρ p).cells.length = z ∧ (ρ p).okc = true) ∧ K (.sl .full z (parts.map fun p => (ρ p).cells))
  | .box x => (ρ x).okc = true ∧ K (.cref (ρ x).cells)
  | .call f args => ∃ r, QSpec P ob f (args.map ρ) r ∧ K r
  | .mm mx x rest => (ρ x).isInt = true ∧ (rest.all fun y => (ρ y).isInt) = true ∧ K (rest.foldl (fun v y => mm2 mx v (ρ y)) (ρ x))
  | .mkf f caps => K (.fn f (caps.map ρ))
  | .mki t x => K (.iface t (ρ x))
  | .lk x k => match ρ x, ρ k with
    | .map i, .str s => ∃ ks m, ob i = some (.map ks m) ∧ K (.int .i64 (m s))
    | .cmap _ m, .str s => K (.int .i64 (m s))
    | _, _ => False
  | .lnd f args => ∃ args' r, lends ob (args.map ρ) = some args' ∧ (∀ ob', QSpec P ob' f args' r) ∧ r.flat = true ∧ K r
  | .cvf x => match ρ x with
    | .int _ n => K (.flt (FloatKind.f64.nearest n))
    | _ => False
  | .cpx x y => match ρ x, ρ y with
    | .flt a, .flt b => K (.cpx a b)
    | _, _ => False
  | .mkz z by_ zero n => match ρ n with
    | .int _ m => 0 ≤ m ∧ m.toNat * by_ ≤ 140737488355328 ∧ K (.sl .no z (List.replicate m.toNat zero))
    | _ => False
  | .slr z x hi => match ρ x, ρ hi with
    | .row i n z' o l, .int _ h => (∃ xs, ob i = some (.row z' xs) ∧ xs.length = n) ∧ z' = z ∧ 0 ≤ h ∧ h ≤ l ∧ K (.row i n z o h.toNat)
    | _, _ => False
end Go.Proofs.Fathom
