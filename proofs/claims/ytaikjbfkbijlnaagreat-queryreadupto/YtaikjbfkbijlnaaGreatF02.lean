/- A part of the proof of 'Rows.QueryReadUptoSaid': for every text and every seeds (of bulk at most 1048576 together) fathomlaw19.QueryRead returns true and its arguments read afterwards as before. -/
import Derived.Test.YtaikjbfkbijlnaaGreatF01
import Derived.Laws.Entries
import Derived.ChangeKeysEq
import Derived.MapKept
set_option linter.unusedVariables false
set_option linter.unusedSimpArgs false
namespace Go.Proofs.Fathom
open Go

def aggOf (P : Program) (t : TypeId) : Option Bool := (P.underlying t).map fun d => match d with
  | .struct _ | .array _ _ => true
  | _ => false
def sizeT (P : Program) (t : TypeId) : Option Nat := (P.info? t).map (·.size)
def fieldT (P : Program) (t : TypeId) (f : Nat) : Option Field := match P.underlying t with
  | some (.struct fs) => fs[f]?
  | _ => none
def elemT (P : Program) (t : TypeId) : Option TypeId := match P.underlying t with
  | some (.slice e) => some e
  | _ => none
def isIntT (P : Program) (t : TypeId) : Option IntKind := match P.underlying t with
  | some (.int k) => some k
  | _ => none
def isStrT (P : Program) (t : TypeId) : Bool := match P.underlying t with
  | some .string => true
  | _ => false
def isBoolT (P : Program) (t : TypeId) : Bool := match P.underlying t with
  | some .bool => true
  | _ => false
def isPtrT (P : Program) (t : TypeId) : Bool := match P.underlying t with
  | some (.pointer _) => true
  | _ => false
def zeroOk (P : Program) (t : TypeId) (zs : List V) : Bool := match (P.info? t).bind (·.zero) with
  | some z => z.cells.toList.length == zs.length && (z.cells.toList.zip zs).all fun p => constOk p.1 p.2 && p.1.oneCell'
  | none => false
def placesT (P : Program) (t : TypeId) : Option (List (Nat × Nat)) := match P.underlying t with
  | some (.struct fields) => fields.toList.mapM (fun f => (P.info? f.type).map fun i => (f.offset, i.size))
  | _ => none
def chkParts (places : List (Nat × Nat)) : List (Nat × Operand) → List (Nat × Nat × Opd) → Bool
  | [], [] => true
  | (i, x) :: xs, (off, n, y) :: ys => places[i]? == some (off, n) && chkOpd x y && chkParts places xs ys
  | _, _ => false
def chkElems : Nat → List (Nat × Operand) → List Opd → Bool
  | _, [], [] => true
  | k, (i, x) :: xs, y :: ys => i == k && chkOpd x y && chkElems (k + 1) xs ys
  | _, _, _ => false
/-- A type whose values are told apart by more than their kind. -/
def chkTK (P : Program) (t : TypeId) : TK → Bool
  | .bool => isBoolT P t
  | .ptr => isPtrT P t
  | _ => true

/-- A map of strings to ints. -/
def isSMapT (P : Program) (t : TypeId) : Bool := match P.underlying t with
  | some (.map k e) => isStrT P k && (match (P.info? e).bind (·.zero) with | some (.int .i64 0) => true | _ => false)
  | _ => false

def chkOp (P : Program) (o : Op) : AOp → Bool
  | .lnd f args => match o with
    | .call { callee := .value (.func g), args := as, argTypes := _ } => g == f && chkOpds as.toList args
    | _ => false
  | .cvf x => match o with
    | .convert s d p => chkOpd p x && (P.underlying s).isSome && (match P.underlying d with | some (.float .f64) => true | _ => false)
    | _ => false
  | .cpx x y => match o with
    | .call { callee := .builtin .complex, args := as, argTypes := _ } => chkOpds as.toList [x, y]
    | _ => false
  | .mkz z by_ zero n => match o with
    | .makeSlice t l c => chkOpd l n && chkOpd c n && (match elemT P t with
        | some e => zeroOk P e zero && (match P.info? e with | some i => i.size == z && i.bytes == by_ && decide (0 < by_) && zero.length == z && decide (0 < z) | none => false)
        | none => false)
    | _ => false
  | .slr z x hi => match o with
    | .slice t p none (some q) none => chkOpd p x && chkOpd q hi && (match elemT P t with | some e => sizeT P e == some z | none => false)
    | _ => false
  | .lk x k => match o with
    | .lookup t p q false => chkOpd p x && chkOpd q k && isSMapT P t
    | _ => false
  | .mv y => match o with
    | .move x | .assign x => chkOpd x y
    | _ => false
  | .pick c x y => match o with
    | .pick c' x' y' => chkOpd c' c && chkOpd x' x && chkOpd y' y
    | _ => false
  | .ld n g x => match o with
    | .load t p => chkOpd p x && aggOf P t == some g && sizeT P t == some n && (g || n == 1)
    | _ => false
  | .fa off x => match o with
    | .fieldAddr s p f => chkOpd p x && (match fieldT P s f with
      | some fd => fd.offset == off && (match sizeT P fd.type with | some n => n != 0 | none => false)
      | none => false)
    | _ => false
  | .fld off n g x => match o with
    | .field t p f => chkOpd p x && (match fieldT P t f with
      | some fd => fd.offset == off && aggOf P fd.type == some g && sizeT P fd.type == some n && (g || n == 1)
      | none => false)
    | _ => false
  | .chk x => match o with
    | .nilCheck p => chkOpd p x
    | _ => false
  | .bin op tk x y => match o with
    | .binOp op' t x' y' _ => op' == op && chkOpd x' x && chkOpd y' y && chkTK P t tk
    | _ => false
  | .not x => match o with
    | .unOp .not _ p => chkOpd p x
    | _ => false
  | .neg x => match o with
    | .unOp .neg _ p => chkOpd p x
    | _ => false
  | .com x => match o with
    | .unOp .xor _ p => chkOpd p x
    | _ => false
  | .cvi k x => match o with
    | .convert s d p => chkOpd p x && (P.underlying s).isSome && isIntT P d == some k
    | _ => false
  | .b2s x => match o with
    | .convert s d p => chkOpd p x && (match elemT P s with | some e => isIntT P e == some .u8 && sizeT P e == some 1 | none => false) && isStrT P d
    | _ => false
  | .ext x i => match o with
    | .extract p j => chkOpd p x && i == j
    | _ => false
  | .len x => match o with
    | .call { callee := .builtin .len, args := args, argTypes := ts } => (match args.toList, ts[0]? with
      | [p], some t => chkOpd p x && (elemT P t).isSome
      | _, _ => false)
    | _ => false
  | .lens x => match o with
    | .call { callee := .builtin .len, args := args, argTypes := ts } => (match args.toList, ts[0]? with
      | [p], some t => chkOpd p x && isStrT P t
      | _, _ => false)
    | _ => false
  | .ix z x i => match o with
    | .indexAddr t p j => chkOpd p x && chkOpd j i && (match elemT P t with | some e => sizeT P e == some z | none => false)
    | _ => false
  | .ixs x i => match o with
    | .index t p j => chkOpd p x && chkOpd j i && isStrT P t
    | _ => false
  | .slc z x lo hi mx => match o with
    | .slice t p lo' hi' mx' => chkOpd p x && chkOpdO lo' lo && chkOpdO hi' hi && chkOpdO mx' mx && (match elemT P t with | some e => sizeT P e == some z | none => false)
    | _ => false
  | .slcs x lo hi => match o with
    | .slice t p lo' hi' none => chkOpd p x && chkOpdO lo' lo && chkOpdO hi' hi && isStrT P t
    | _ => false
  | .bld zero parts => match o with
    | .build t ps => zeroOk P t zero && (match placesT P t with | some places => chkParts places ps.toList parts | none => false)
    | _ => false
  | .bsl z parts => match o with
    | .buildSlice t n ps => n == parts.length && chkElems 0 ps.toList parts && decide (n * z ≤ 16777216) &&
        (match elemT P t with | some e => sizeT P e == some z && (match (P.info? e).bind (·.zero) with | some v => v.cells.size == z | none => false) | none => false)
    | _ => false
  | .box x => match o with
    | .box _ p => chkOpd p x
    | _ => false
  | .call f args => match o with
    | .call { callee := .value (.func g), args := as, argTypes := _ } => g == f && chkOpds as.toList args
    | _ => false
  | .mm mx x rest => match o with
    | .call { callee := .builtin b, args := as, argTypes := _ } => (if mx then b == .max else b == .min) && chkOpds as.toList (x :: rest)
    | _ => false
  | .mkf f caps => match o with
    | .makeFunc (.func g) first cs => g == f && first.toList.isEmpty && chkOpds cs.toList caps
    | _ => false
  | .mki t x => match o with
    | .makeInterface u p => u == t && chkOpd p x && (match P.underlying t with | some (.interface _) | none => false | _ => true)
    | _ => false

/-- What an operation that leaves the objects alone does. -/
def QRes (P : Program) (E : Env) (K : V → Prop) (r : Result Next) : Prop :=
  (∃ (c : V) (v : Value) (E' : Env), K c ∧ VR E' c v ∧ E.q E' ∧ r = .ok (.value v) E'.w) ∨
  (∃ (f : FuncId) (vals : Array Value), r = .ok (.enter f vals) E.w ∧
    Calls P f vals E.w fun e w' => ∃ (c : V) (v : Value) (E' : Env), e = .returned v ∧ E'.w = w' ∧ E.q E' ∧ K c ∧ VR E' c v)
theorem QRes.value {P : Program} {E : Env} {K : V → Prop} {c : V} {v : Value} (hK : K c) (hv : VR E c v) {r : Result Next} (hr : r = .ok (.value v) E.w) : QRes P E K r :=
  .inl ⟨c, v, E, hK, hv, Env.q.refl E, hr⟩

section
variable {P : Program} {E : Env} {ρ : Opd → V} {ev : Operand → Value} {ob : Obs} {K : V → Prop} {o : Oper}

theorem aq_mv {y : Opd} (hev : EvOk E ρ ev) (hc : chkOp P o.op (.mv y) = true) (h : aq P ρ ob K (.mv y)) : QRes P E K ((execOp ev o).run P E.w) := by
  simp only [chkOp] at hc
  split at hc
  · rename_i x he
    exact .value h (hev _ _ hc) (by simp [execOp, he])
  · rename_i x he
    exact .value h (hev _ _ hc) (by simp [execOp, he])
  · cases hc
theorem aq_pick {c x y : Opd} (hev : EvOk E ρ ev) (hc : chkOp P o.op (.pick c x y) = true) (h : aq P ρ ob K (.pick c x y)) : QRes P E K ((execOp ev o).run P E.w) := by
  simp only [chkOp] at hc
  split at hc
  · rename_i c' x' y' he
    simp only [Bool.and_eq_true] at hc
    simp only [aq] at h
    have h1 := hev _ _ hc.1.1
    split at h
    · rename_i t ht
      rw [ht] at h1
      simp only [VR] at h1
      cases t
      · exact .value (h.2 rfl) (hev _ _ hc.2) (by simp [execOp, he, h1, asBool])
      · exact .value (h.1 rfl) (hev _ _ hc.1.2) (by simp [execOp, he, h1, asBool])
    · cases h
  · cases hc
theorem aq_ext {x : Opd} {i : Nat} (hev : EvOk E ρ ev) (hc : chkOp P o.op (.ext x i) = true) (h : aq P ρ ob K (.ext x i)) : QRes P E K ((execOp ev o).run P E.w) := by
  simp only [chkOp] at hc
  split at hc
  · rename_i p j he
    simp only [Bool.and_eq_true, beq_iff_eq] at hc
    obtain ⟨h0, rfl⟩ := hc
    simp only [aq] at h
    have h1 := hev _ _ h0
    split at h
    · rename_i vs ht
      obtain ⟨c, hc, hk⟩ := h
      rw [ht] at h1
      simp only [VR] at h1
      obtain ⟨us, hu, hr⟩ := h1
      obtain ⟨v, hv, hr⟩ := hr.get hc
      exact .value hk hr (by simp at hv; simp [execOp, he, hu, Instr.extract, hv])
    · cases h
  · cases hc
theorem aq_not {x : Opd} (hev : EvOk E ρ ev) (hc : chkOp P o.op (.not x) = true) (h : aq P ρ ob K (.not x)) : QRes P E K ((execOp ev o).run P E.w) := by
  simp only [chkOp] at hc
  split at hc
  · rename_i t p he
    simp only [aq] at h
    have h1 := hev _ _ hc
    split at h
    · rename_i b hb
      rw [hb] at h1
      simp only [VR] at h1
      refine .value h (v := .bool (!b)) (by simp only [VR]) (by simp [execOp, he, h1, Op.unary])
    · cases h
  · cases hc
theorem aq_neg {x : Opd} (hev : EvOk E ρ ev) (hc : chkOp P o.op (.neg x) = true) (h : aq P ρ ob K (.neg x)) : QRes P E K ((execOp ev o).run P E.w) := by
  simp only [chkOp] at hc
  split at hc
  · rename_i t p he
    simp only [aq] at h
    have h1 := hev _ _ hc
    split at h
    · rename_i k n hb
      rw [hb] at h1
      simp only [VR] at h1
      refine .value h (v := .int k (k.wrap (0 - n))) (by simp only [VR]) (by simp [execOp, he, h1, Op.unary, Op.intArith])
    · cases h
  · cases hc
theorem aq_com {x : Opd} (hev : EvOk E ρ ev) (hc : chkOp P o.op (.com x) = true) (h : aq P ρ ob K (.com x)) : QRes P E K ((execOp ev o).run P E.w) := by
  simp only [chkOp] at hc
  split at hc
  · rename_i t p he
    simp only [aq] at h
    have h1 := hev _ _ hc
    split at h
    · rename_i k n hb
      rw [hb] at h1
      simp only [VR] at h1
      refine .value h (v := .int k (bitsv .xor k (if k.signed then -1 else k.max) n)) (by simp only [VR]) (by simp [execOp, he, h1, Op.unary, Op.intBits, bitsv])
    · cases h
  · cases hc
theorem aq_chk {x : Opd} (hev : EvOk E ρ ev) (hc : chkOp P o.op (.chk x) = true) (h : aq P ρ ob K (.chk x)) : QRes P E K ((execOp ev o).run P E.w) := by
  simp only [chkOp] at hc
  split at hc
  · rename_i p he
    simp only [aq] at h
    have h1 := hev _ _ hc
    split at h
    · rename_i cs hb
      rw [hb] at h1
      have h2 := h1
      simp only [VR] at h2
      obtain ⟨b, o', hv, _⟩ := h2
      exact .value h h1 (by simp [execOp, he, hv])
    · rename_i i o' hb
      rw [hb] at h1
      have h2 := h1
      simp only [VR] at h2
      obtain ⟨b, _, hv⟩ := h2
      exact .value h h1 (by simp [execOp, he, hv])
    · rename_i f cs hb
      rw [hb] at h1
      have h2 := h1
      simp only [VR] at h2
      obtain ⟨vs, hv, _⟩ := h2
      exact .value h h1 (by simp [execOp, he, hv])
    · cases h
  · cases hc
theorem aq_mkf {f : FuncId} {caps : List Opd} (hev : EvOk E ρ ev) (hc : chkOp P o.op (.mkf f caps) = true) (h : aq P ρ ob K (.mkf f caps)) : QRes P E K ((execOp ev o).run P E.w) := by
  simp only [chkOp] at hc
  split at hc
  · rename_i g first cs he
    simp only [Bool.and_eq_true, beq_iff_eq, List.isEmpty_iff] at hc
    obtain ⟨⟨rfl, h0⟩, h1⟩ := hc
    have hf : first = #[] := by cases first; simp_all
    subst hf
    refine .value h (v := .func (.func g) #[] (cs.map ev)) ?_ (by simp [execOp, he, Instr.makeFunc])
    simp only [VR]
    exact ⟨_, rfl, by simpa using hev.list h1⟩
  · cases hc
theorem aq_mki {t : TypeId} {x : Opd} (hev : EvOk E ρ ev) (hc : chkOp P o.op (.mki t x) = true) (h : aq P ρ ob K (.mki t x)) : QRes P E K ((execOp ev o).run P E.w) := by
  simp only [chkOp] at hc
  split at hc
  · rename_i u p he
    simp only [Bool.and_eq_true, beq_iff_eq] at hc
    obtain ⟨⟨rfl, h0⟩, h1⟩ := hc
    refine .value h (v := .iface u (ev p)) (by simp only [VR]; exact ⟨_, rfl, hev _ _ h0⟩) ?_
    split at h1 <;> first | cases h1 | skip
    rename_i hd hn
    cases hu : P.underlying u with
    | none => exact absurd hu hn
    | some d =>
      have : ∀ ms, d ≠ .interface ms := fun ms e => hd ms (by rw [hu, e])
      simp [execOp, he, Instr.makeInterface, run_underlying hu]
  · cases hc
theorem aq_cvi {k : IntKind} {x : Opd} (hev : EvOk E ρ ev) (hc : chkOp P o.op (.cvi k x) = true) (h : aq P ρ ob K (.cvi k x)) : QRes P E K ((execOp ev o).run P E.w) := by
  simp only [chkOp] at hc
  split at hc
  · rename_i s d p he
    simp only [Bool.and_eq_true, beq_iff_eq, isIntT] at hc
    obtain ⟨⟨h0, h2⟩, h3⟩ := hc
    have h1 := hev _ _ h0
    simp only [aq] at h
    obtain ⟨ds, hs⟩ := Option.isSome_iff_exists.1 h2
    split at h3
    · rename_i k' hd
      cases h3
      split at h
      · rename_i k' n hb
        rw [hb] at h1
        simp only [VR] at h1
        refine .value h (v := .int k (k.wrap n)) (by simp only [VR]) ?_
        simp [execOp, he, h1, convert, run_underlying hs, run_underlying hd]
        cases ds <;> simp [Conv.intToInt]
      · cases h
    · cases h3
  · cases hc

theorem aq_box {x : Opd} (hw : E.wf) (hev : EvOk E ρ ev) (hc : chkOp P o.op (.box x) = true) (h : aq P ρ ob K (.box x)) : QRes P E K ((execOp ev o).run P E.w) := by
  simp only [chkOp] at hc
  split at hc
  · rename_i t p he
    simp only [aq] at h
    obtain ⟨h1, hk⟩ := h
    have hr := hev _ _ hc
    obtain ⟨h3, h4⟩ := hr.stored h1
    refine .inl ⟨_, .pointer (some ⟨E.w.heap.size, 0, none⟩), E.grow (.cells (ev p).cells t) (fun _ => True), hk, ?_, Env.q_grow _ _ _, ?_⟩
    · simp only [VR]
      exact ⟨_, _, rfl, CellsAt.grown hw h4 h3 t⟩
    · simp [execOp, he, Instr.box, newVar, newRow, Env.grow]
  · cases hc

theorem fieldT_spec {t : TypeId} {f : Nat} {fd : Field} (h : fieldT P t f = some fd) : ∃ fs, P.underlying t = some (.struct fs) ∧ fs[f]? = some fd := by
  unfold fieldT at h
  split at h
  · rename_i fs hu
    exact ⟨fs, hu, h⟩
  · cases h
theorem sizeT_run {t : TypeId} {n : Nat} (h : sizeT P t = some n) (w : World) : (sizeOf t).run P w = .ok n w := by
  unfold sizeT at h
  obtain ⟨i, hi, rfl⟩ := Option.map_eq_some_iff.1 h
  simp [sizeOf, typeInfo, hi]
theorem aggOf_run {t : TypeId} {g : Bool} (h : aggOf P t = some g) (w : World) : (isAgg t).run P w = .ok g w := by
  unfold aggOf at h
  obtain ⟨d, hd, rfl⟩ := Option.map_eq_some_iff.1 h
  simp only [isAgg, Sem.run_bind, run_underlying hd, Result.andThen_ok]
  cases d <;> rfl
theorem elemT_spec {t e : TypeId} (h : elemT P t = some e) : P.underlying t = some (.slice e) := by
  unfold elemT at h
  split at h
  · rename_i e' hu
    cases h
    exact hu
  · cases h
theorem isStrT_spec {t : TypeId} (h : isStrT P t = true) : P.underlying t = some .string := by
  unfold isStrT at h
  split at h
  · assumption
  · cases h
theorem isIntT_spec {t : TypeId} {k : IntKind} (h : isIntT P t = some k) : P.underlying t = some (.int k) := by
  unfold isIntT at h
  split at h
  · rename_i k' hu
    cases h
    exact hu
  · cases h
theorem isBoolT_spec {t : TypeId} (h : isBoolT P t = true) : P.underlying t = some .bool := by
  unfold isBoolT at h
  split at h
  · assumption
  · cases h
theorem isPtrT_spec {t : TypeId} (h : isPtrT P t = true) : ∃ e, P.underlying t = some (.pointer e) := by
  unfold isPtrT at h
  split at h
  · exact ⟨_, by assumption⟩
  · cases h
theorem add_off (b o n : Nat) : (⟨b, o, none⟩ : Addr).add n = ⟨b, o + n, none⟩ := by
  unfold Addr.add
  split
  · subst n; rfl
  · rfl
theorem flatten_get {z : Nat} : ∀ {xs : List (List V)}, (∀ c ∈ xs, c.length = z) → ∀ {j k : Nat} {c : List V}, xs[j]? = some c → k < z → xs.flatten[j * z + k]? = c[k]?
  | [], _, _, _, _, hj, _ => by simp at hj
  | d :: xs, hz, j, k, c, hj, hk => by
    have hd := hz d (by simp)
    cases j with
    | zero =>
      simp at hj
      subst hj
      rw [List.flatten_cons, Nat.zero_mul, Nat.zero_add, List.getElem?_append_left (by omega)]
    | succ j =>
      simp at hj
      rw [List.flatten_cons, List.getElem?_append_right (by rw [Nat.succ_mul]; omega)]
      rw [show (j + 1) * z + k - d.length = j * z + k by rw [Nat.succ_mul]; omega]
      exact flatten_get (fun c hc => hz c (by simp [hc])) hj hk
/-- Cells that are read. -/
theorem load_cells {b o n : Nat} {g : Bool} {t : TypeId} {cs : List V} {vs : List Value} (hag : aggOf P t = some g) (hsz : sizeT P t = some n) (hg : (g || n == 1) = true)
    (hr : VRs E cs vs) (h1 : AllOne vs) (hcell : ∀ j v, vs[j]? = some v → E.w.cell? ⟨b, o + j, none⟩ = some v) (hn : n ≤ cs.length) :
    ∃ v, VR E (ldv g n cs) v ∧ (loadVar t ⟨b, o, none⟩).run P E.w = .ok v E.w := by
  have hl := hr.length
  cases g with
  | true =>
    refine ⟨.agg (vs.take n).toArray, ?_, ?_⟩
    · simp only [ldv, if_true, VR]
      exact ⟨_, rfl, fun u hu => h1 u (List.mem_of_mem_take (by simpa using hu)), by simpa using hr.take n⟩
    · have hload := run_loadCells_list (P := P) (w := E.w) ⟨b, o, none⟩ (vs.take n) (fun j v hv => by
        rw [add_off]
        rw [List.getElem?_take] at hv
        split at hv
        · exact hcell j v hv
        · cases hv)
      have hlen : (vs.take n).length = n := by simp; omega
      rw [hlen] at hload
      simp only [loadVar, Sem.run_bind, aggOf_run hag, Result.andThen_ok, if_true, sizeT_run hsz, hload, Sem.run_pure]
  | false =>
    have hn1 : n = 1 := by simpa using hg
    subst hn1
    cases cs with
    | nil => simp at hn
    | cons c cs =>
      simp only [VRs] at hr
      obtain ⟨v, l, rfl, hv, _⟩ := hr
      refine ⟨v, by simpa [ldv] using hv, ?_⟩
      have hc0 := hcell 0 v rfl
      simp only [Nat.add_zero] at hc0
      simp [loadVar, aggOf_run hag, hc0]

theorem aq_ld {n : Nat} {g : Bool} {x : Opd} (hs : SOk E ob) (hev : EvOk E ρ ev) (hc : chkOp P o.op (.ld n g x) = true) (h : aq P ρ ob K (.ld n g x)) : QRes P E K ((execOp ev o).run P E.w) := by
  simp only [chkOp] at hc
  split at hc
  · rename_i t p he
    simp only [Bool.and_eq_true, beq_iff_eq] at hc
    obtain ⟨⟨⟨h0, hag⟩, hsz⟩, hg⟩ := hc
    have h1 := hev _ _ h0
    have fin : ∀ (b o' : Nat) (v : Value), ev p = .pointer (some ⟨b, o', none⟩) → (loadVar t ⟨b, o', none⟩).run P E.w = .ok v E.w → (execOp ev o).run P E.w = .ok (.value v) E.w := by
      intro b o' v hp hl
      simp [execOp, he, Instr.loadAt, hp, Instr.sureAddr, hl]
    simp only [aq] at h
    split at h
    · rename_i cs hb
      rw [hb] at h1
      simp only [VR] at h1
      obtain ⟨b, o', hv, hcs⟩ := h1
      obtain ⟨vs, h2, h3, h4⟩ := CellsAt_iff.1 hcs
      obtain ⟨v, h5, h6⟩ := load_cells (P := P) hag hsz hg h2 h3 (fun j v hj => (h4 j v hj).1) h.1
      exact .value h.2 h5 (fin _ _ _ hv h6)
    · rename_i i off hb
      rw [hb] at h1
      simp only [VR] at h1
      obtain ⟨b, hi, hv⟩ := h1
      obtain ⟨cs, hob, hlen, hk⟩ := h
      obtain ⟨b', cur, e, hi', hh, hone, hr, _⟩ := hs.ok _ _ hob
      rw [hi] at hi'
      cases hi'
      obtain ⟨v, h5, h6⟩ := load_cells (P := P) (b := b) (o := off) (E := E) hag hsz hg (hr.drop off) (fun u hu => hone u (List.mem_of_mem_drop hu)) (fun j v hj => by
        rw [cell_of_row E.w b (off + j) cur e (0, 0) hh]
        rw [List.getElem?_drop] at hj
        simpa using hj) (by simp; omega)
      exact .value hk h5 (fin _ _ _ hv h6)
    · rename_i i m z j f hb
      rw [hb] at h1
      simp only [VR, RptrOk] at h1
      obtain ⟨_, b, n', hi, hle, hv⟩ := h1
      obtain ⟨xs, c, hob, rfl, hj, hlen, hk⟩ := h
      obtain ⟨b', hi', hz, hreal⟩ := hs.ok _ _ hob
      rw [hi] at hi'
      simp only [Option.some.injEq, Prod.mk.injEq, Nat.add_right_cancel_iff] at hi'
      obtain ⟨rfl, rfl⟩ := hi'
      obtain ⟨g', hg', hv'⟩ := hv rfl
      subst hg'
      obtain ⟨cur, e, hh, hsize, hone, hr, _⟩ := hreal
      have hcm : c ∈ xs := List.mem_of_getElem? hj
      have hcz := hz c hcm
      have hjl := (List.getElem?_eq_some_iff.1 hj).1
      have hrc : VRs E c ((cur.toList.drop (j * z)).take z) := by
        have h5 := (hr.drop (j * z)).take z
        have h6 : (xs.flatten.drop (j * z)).take z = c := by
          refine List.ext_getElem? fun k => ?_
          rw [List.getElem?_take]
          split
          · rename_i hkz
            rw [List.getElem?_drop, flatten_get hz hj hkz]
          · rename_i hkz
            rw [List.getElem?_eq_none (by omega)]
        have h7 : ((cur.toList.take (xs.length * z)).drop (j * z)).take z = (cur.toList.drop (j * z)).take z := by
          rw [List.drop_take, List.take_take, Nat.min_eq_left]
          rw [← Nat.sub_mul]
          exact Nat.le_mul_of_pos_left _ (by omega)
        rw [h6, h7] at h5
        exact h5
      have hmul : j * z + z ≤ xs.length * z := by
        rw [← Nat.succ_mul]
        exact Nat.mul_le_mul_right _ hjl
      have honec : AllOne ((cur.toList.drop (j * z)).take z) := by
        intro u hu
        apply hone u
        obtain ⟨k, hk'⟩ := List.mem_iff_getElem?.1 hu
        rw [List.getElem?_take] at hk'
        split at hk'
        · rename_i hkz
          rw [List.getElem?_drop] at hk'
          refine List.mem_of_getElem? (i := j * z + k) ?_
          rw [List.getElem?_take, if_pos (by omega)]
          exact hk'
        · cases hk'
      obtain ⟨v, h5, h6⟩ := load_cells (P := P) (b := g') (o := j * z + f) (E := E) hag hsz hg (hrc.drop f) (fun u hu => honec u (List.mem_of_mem_drop hu)) (fun k v hk' => by
        rw [cell_of_row E.w g' (j * z + f + k) cur e (0, 0) hh]
        rw [List.getElem?_drop, List.getElem?_take] at hk'
        split at hk'
        · rw [List.getElem?_drop] at hk'
          rw [Nat.add_assoc]
          simpa using hk'
        · cases hk') (by rw [List.length_drop]; omega)
      exact .value hk h5 (fin _ _ _ hv' h6)
    · cases h
  · cases hc
theorem aq_fa {off : Nat} {x : Opd} (hev : EvOk E ρ ev) (hc : chkOp P o.op (.fa off x) = true) (h : aq P ρ ob K (.fa off x)) : QRes P E K ((execOp ev o).run P E.w) := by
  simp only [chkOp] at hc
  split at hc
  · rename_i t p f he
    simp only [Bool.and_eq_true] at hc
    obtain ⟨h0, h2⟩ := hc
    have h1 := hev _ _ h0
    split at h2
    · rename_i fd hfd
      simp only [Bool.and_eq_true, beq_iff_eq] at h2
      obtain ⟨rfl, h3⟩ := h2
      split at h3
      · rename_i n hn
        have hne : n ≠ 0 := by simpa using h3
        obtain ⟨fs, hu, hf⟩ := fieldT_spec hfd
        have fin : ∀ (b o' : Nat), ev p = .pointer (some ⟨b, o', none⟩) → (execOp ev o).run P E.w = .ok (.value (.pointer (some ⟨b, o' + fd.offset, none⟩))) E.w := by
          intro b o' hp
          simp [execOp, he, Instr.fieldAt, run_underlying hu, hf, hp, Instr.sureAddr, fieldPlace, sizeT_run hn, hne, add_off]
        simp only [aq] at h
        split at h
        · rename_i cs hb
          rw [hb] at h1
          simp only [VR] at h1
          obtain ⟨b, o', hv, hcs⟩ := h1
          refine .value h.2 ?_ (fin _ _ hv)
          simp only [VR]
          exact ⟨_, _, rfl, hcs.drop _ h.1⟩
        · rename_i i off hb
          rw [hb] at h1
          simp only [VR] at h1
          obtain ⟨b, hi, hv⟩ := h1
          refine .value h ?_ (fin _ _ hv)
          simp only [VR]
          exact ⟨_, hi, rfl⟩
        · rename_i i m z j f' hb
          rw [hb] at h1
          simp only [VR, RptrOk] at h1
          obtain ⟨⟨a, ha⟩, b, n', hi, hle, hv⟩ := h1
          by_cases hn' : n' = m
          · obtain ⟨g', hg', hv'⟩ := hv hn'
            subst hg'
            refine .value h ?_ (fin _ _ hv')
            simp only [VR, RptrOk]
            exact ⟨⟨_, rfl⟩, some g', n', hi, hle, fun _ => ⟨_, rfl, by rw [Nat.add_assoc]⟩⟩
          · refine .value h (v := .pointer (some (a.add fd.offset))) ?_ ?_
            · simp only [VR, RptrOk]
              exact ⟨⟨_, rfl⟩, b, n', hi, hle, fun e => absurd e hn'⟩
            · simp [execOp, he, Instr.fieldAt, run_underlying hu, hf, ha, Instr.sureAddr, fieldPlace, sizeT_run hn, hne]
        · cases h
      · cases h3
    · cases h2
  · cases hc
theorem aq_fld {off n : Nat} {g : Bool} {x : Opd} (hev : EvOk E ρ ev) (hc : chkOp P o.op (.fld off n g x) = true) (h : aq P ρ ob K (.fld off n g x)) : QRes P E K ((execOp ev o).run P E.w) := by
  simp only [chkOp] at hc
  split at hc
  · rename_i t p f he
    simp only [Bool.and_eq_true] at hc
    obtain ⟨h0, h2⟩ := hc
    have h1 := hev _ _ h0
    split at h2
    · rename_i fd hfd
      simp only [Bool.and_eq_true, beq_iff_eq] at h2
      obtain ⟨⟨⟨rfl, hag⟩, hsz⟩, hg⟩ := h2
      obtain ⟨fs, hu, hf⟩ := fieldT_spec hfd
      simp only [aq] at h
      split at h
      · rename_i cs hb
        rw [hb] at h1
        simp only [VR] at h1
        obtain ⟨vs, hv, hone, hr⟩ := h1
        obtain ⟨hlen, hk⟩ := h
        have hl := hr.length
        have hrd := hr.drop fd.offset
        cases g with
        | true =>
          refine .value hk (v := .agg (vs.extract fd.offset (fd.offset + n))) ?_ ?_
          · simp only [ldv, if_true, VR]
            refine ⟨_, rfl, fun u hu => hone u ?_, ?_⟩
            · simp only [Array.toList_extract, List.extract_eq_take_drop] at hu
              exact List.mem_of_mem_drop (List.mem_of_mem_take hu)
            · simpa [List.extract_eq_take_drop] using hrd.take n
          · simp [execOp, he, Instr.field, run_underlying hu, hf, hv, asAgg, part, aggOf_run hag, sizeT_run hsz]
        | false =>
          have hn1 : n = 1 := by simpa using hg
          subst hn1
          cases hd : cs.drop fd.offset with
          | nil => rw [List.drop_eq_nil_iff] at hd; omega
          | cons c r =>
            rw [hd] at hrd hk
            simp only [VRs] at hrd
            obtain ⟨v, l, hl2, hvr, _⟩ := hrd
            have hget : vs[fd.offset]? = some v := by
              have : (vs.toList.drop fd.offset)[0]? = some v := by rw [hl2]; rfl
              simpa using this
            refine .value hk (v := v) (by simpa [ldv] using hvr) ?_
            simp [execOp, he, Instr.field, run_underlying hu, hf, hv, asAgg, part, aggOf_run hag, hget]
      · cases h
    · cases h2
  · cases hc

theorem arr_one {α : Type} {args : Array α} {p : α} (h : args.toList = [p]) : args = #[p] := by
  apply Array.ext'
  simpa using h
theorem RowOk.live (hs : SOk E ob) {i n z o l : Nat} {v : Value} (hr : RowOk E i n z o l v) (hl : ∃ xs, ob i = some (.row z xs) ∧ xs.length = n) :
    ∃ b, E.ι i = some (b, n + 1) ∧ (match b with
      | none => n = 0 ∧ l = 0 ∧ ∃ a, v = .slice a 0 0
      | some b => ∃ cap, v = .slice (some ⟨b, o * z, none⟩) l cap ∧ l ≤ cap ∧ o + l ≤ n ∧ cap ≤ maxLen ∧
          ∃ cur e, E.w.heap[b]? = some (.cells cur e (0, 0)) ∧ cur.size = (o + cap) * z) := by
  obtain ⟨_, b, n', hi, hle, hok⟩ := hr
  obtain ⟨xs, hob, rfl⟩ := hl
  obtain ⟨b', hi', _⟩ := hs.ok _ _ hob
  rw [hi] at hi'
  simp only [Option.some.injEq, Prod.mk.injEq, Nat.add_right_cancel_iff] at hi'
  obtain ⟨rfl, rfl⟩ := hi'
  exact ⟨_, hi, hok rfl⟩
theorem aq_len {x : Opd} (hs : SOk E ob) (hev : EvOk E ρ ev) (hc : chkOp P o.op (.len x) = true) (h : aq P ρ ob K (.len x)) : QRes P E K ((execOp ev o).run P E.w) := by
  simp only [chkOp] at hc
  split at hc
  · rename_i args ts he
    split at hc
    · rename_i p t hargs hts
      simp only [Bool.and_eq_true] at hc
      obtain ⟨h0, h2⟩ := hc
      have h1 := hev _ _ h0
      obtain rfl := arr_one hargs
      obtain ⟨e, h3⟩ := Option.isSome_iff_exists.1 h2
      have fin : ∀ a n c, ev p = .slice a n c → (execOp ev o).run P E.w = .ok (.value (.int .i64 n)) E.w := by
        intro a n c hv
        simp [execOp, he, resolve, invoke, builtin, Builtin.len_, hts, run_underlying (elemT_spec h3), hv, goInt]
      simp only [aq] at h
      split at h
      · rename_i t' z' xs hb
        rw [hb] at h1
        simp only [VR] at h1
        obtain ⟨a, len, cap, hv, rfl, _⟩ := h1
        exact .value h (by simp only [VR]) (fin _ _ _ hv)
      · rename_i i n z' o' l hb
        rw [hb] at h1
        simp only [VR] at h1
        obtain ⟨b, _, hv⟩ := h1.live hs h.1
        cases b with
        | none =>
          obtain ⟨_, rfl, a, hv⟩ := hv
          exact .value h.2 (by simp only [VR]) (fin _ _ _ hv)
        | some b =>
          obtain ⟨cap, hv, _⟩ := hv
          exact .value h.2 (by simp only [VR]) (fin _ _ _ hv)
      · cases h
    · cases hc
  · cases hc
theorem aq_lens {x : Opd} (hev : EvOk E ρ ev) (hc : chkOp P o.op (.lens x) = true) (h : aq P ρ ob K (.lens x)) : QRes P E K ((execOp ev o).run P E.w) := by
  simp only [chkOp] at hc
  split at hc
  · rename_i args ts he
    split at hc
    · rename_i p t hargs hts
      simp only [Bool.and_eq_true] at hc
      obtain ⟨h0, h2⟩ := hc
      have h1 := hev _ _ h0
      obtain rfl := arr_one hargs
      simp only [aq] at h
      split at h
      · rename_i s hb
        rw [hb] at h1
        simp only [VR] at h1
        exact .value h (v := .int .i64 s.size) (by simp only [VR]) (by simp [execOp, he, resolve, invoke, builtin, Builtin.len_, hts, run_underlying (isStrT_spec h2), h1, goInt])
      · cases h
    · cases hc
  · cases hc
theorem aq_ixs {x i : Opd} (hev : EvOk E ρ ev) (hc : chkOp P o.op (.ixs x i) = true) (h : aq P ρ ob K (.ixs x i)) : QRes P E K ((execOp ev o).run P E.w) := by
  simp only [chkOp] at hc
  split at hc
  · rename_i t p j he
    simp only [Bool.and_eq_true] at hc
    obtain ⟨⟨h0, h1⟩, h2⟩ := hc
    have hx := hev _ _ h0
    have hi := hev _ _ h1
    simp only [aq] at h
    split at h
    · rename_i s k n hxs his
      rw [hxs] at hx
      rw [his] at hi
      simp only [VR] at hx hi
      obtain ⟨hn, b, hb, hk⟩ := h
      exact .value hk (v := .int .u8 b.toNat) (by simp only [VR]) (by simp [execOp, he, Instr.index, hx, hi, asIntOf, run_underlying (isStrT_spec h2), hn, hb])
    · cases h
  · cases hc
theorem aq_ix {z : Nat} {x i : Opd} (hs : SOk E ob) (hev : EvOk E ρ ev) (hc : chkOp P o.op (.ix z x i) = true) (h : aq P ρ ob K (.ix z x i)) : QRes P E K ((execOp ev o).run P E.w) := by
  simp only [chkOp] at hc
  split at hc
  · rename_i t p j he
    simp only [Bool.and_eq_true] at hc
    obtain ⟨⟨h0, h1⟩, h2⟩ := hc
    have hx := hev _ _ h0
    have hi := hev _ _ h1
    split at h2
    · rename_i e hel
      have hsz : sizeT P e = some z := by simpa using h2
      have fin : ∀ a len cap k (n : Int), ev p = .slice (some a) len cap → ev j = .int k n → 0 ≤ n → n < len →
          (execOp ev o).run P E.w = .ok (.value (.pointer (some (a.add (n.toNat * z))))) E.w := by
        intro a len cap k n hv hj h3 h4
        simp [execOp, he, Instr.indexAt, hv, hj, asIntOf, run_underlying (elemT_spec hel), h3, h4, sizeT_run hsz]
      simp only [aq] at h
      split at h
      · rename_i t' z' xs k n hxs his
        rw [hxs] at hx
        rw [his] at hi
        simp only [VR] at hx hi
        obtain ⟨a, len, cap, hv, rfl, hle, hel', _⟩ := hx
        obtain ⟨rfl, hn, c, hc, hk⟩ := h
        have hlt := (List.getElem?_eq_some_iff.1 hc).1
        obtain ⟨b, o', rfl, hat⟩ := hel' (by intro e; subst e; simp at hlt)
        have := hat.get hc
        refine .value hk ?_ (fin _ _ _ _ _ hv hi hn (by omega))
        simp only [VR]
        exact ⟨b, o' + n.toNat * z', by rw [add_off], this.2⟩
      · rename_i i' n' z' o' l k m hxs his
        rw [hxs] at hx
        rw [his] at hi
        simp only [VR] at hx hi
        obtain ⟨hlv, rfl, h3, h4, hk⟩ := h
        obtain ⟨b, hid, hv'⟩ := hx.live hs hlv
        cases b with
        | none => obtain ⟨_, rfl, _⟩ := hv'; omega
        | some b =>
          obtain ⟨cap', hv', _⟩ := hv'
          refine .value hk ?_ (fin _ _ _ _ _ hv' hi h3 (by omega))
          simp only [VR, RptrOk]
          exact ⟨⟨_, rfl⟩, some b, n', hid, Nat.le_refl _, fun _ => ⟨b, rfl, by rw [add_off, Nat.add_mul, Nat.add_zero]⟩⟩
      · cases h
    · cases h2
  · cases hc

theorem aq_b2s {x : Opd} (hev : EvOk E ρ ev) (hc : chkOp P o.op (.b2s x) = true) (h : aq P ρ ob K (.b2s x)) : QRes P E K ((execOp ev o).run P E.w) := by
  simp only [chkOp] at hc
  split at hc
  · rename_i s d p he
    simp only [Bool.and_eq_true] at hc
    obtain ⟨⟨h0, h2⟩, h3⟩ := hc
    have h1 := hev _ _ h0
    split at h2
    · rename_i e hel
      simp only [Bool.and_eq_true, beq_iff_eq] at h2
      have hu8 := isIntT_spec h2.1
      simp only [aq] at h
      split at h
      · rename_i t' z' xs hb
        rw [hb] at h1
        simp only [VR] at h1
        obtain ⟨a, len, cap, hv, rfl, hle, hel', _⟩ := h1
        obtain ⟨bs, hbs, hk⟩ := h
        have hrun : (convert s d (ev p)).run P E.w = .ok (.string (strOfNums bs)) E.w := by
          by_cases hne : xs = []
          · have hbs0 : bs = [] := by rw [hne] at hbs; simpa using hbs.symm
            subst hbs0
            subst hne
            rw [hv]
            cases a with
            | none => exact run_convert_bytes_nil E.w s e (elemT_spec hel) hu8 _ _ d (isStrT_spec h3)
            | some a =>
              simp [convert, run_underlying (elemT_spec hel), run_underlying (isStrT_spec h3), run_underlying hu8, Conv.bytesToString, loadCells, loadCellsFrom, strOfNums]
              rfl
          · obtain ⟨b, o', rfl, hat⟩ := hel' hne
            rw [hv]
            have hlen : bs.length = xs.length := by rw [hbs]; simp
            refine run_convert_bytes_arg E.w s e (elemT_spec hel) hu8 b o' xs.length cap bs hlen (fun i hi => ?_) d (isStrT_spec h3)
            obtain ⟨n, hn⟩ : ∃ n, bs[i]? = some n := ⟨bs[i]'(by omega), by simp⟩
            have hx : xs[i]? = some [V.int .u8 n] := by rw [hbs]; simp [hn]
            obtain ⟨hz, hcell⟩ := hat.get hx
            simp only [List.length_singleton] at hz
            subst hz
            simp only [CellsAt, VR, Nat.mul_one] at hcell
            obtain ⟨⟨v, hcv, _, _, rfl⟩, _⟩ := hcell
            rw [hcv]
            simp [List.getD_eq_getElem?_getD, hn]
        exact .value hk (v := .string (strOfNums bs)) (by simp only [VR]) (by simp [execOp, he, hrun])
      · cases h
    · cases h2
  · cases hc

theorem mm_run {mx : Bool} {rest : List Opd} {rs : List Operand} (hev : EvOk E ρ ev) : ∀ (v : V) (u : Value), VR E v u → v.isInt = true → (rest.all fun y => (ρ y).isInt) = true → chkOpds rs rest = true →
    ∃ u', VR E (rest.foldl (fun v y => mm2 mx v (ρ y)) v) u' ∧ ((rs.map ev).foldlM (fun a b => if mx then Builtin.max2 a b else Builtin.min2 a b) u).run P E.w = .ok u' E.w := by
  induction rest generalizing rs with
  | nil =>
    intro v u hv _ _ hc
    cases rs with
    | nil => exact ⟨u, hv, by simp⟩
    | cons _ _ => simp [chkOpds] at hc
  | cons y ys ih =>
    intro v u hv hi ha hc
    cases rs with
    | nil => simp [chkOpds] at hc
    | cons r rs =>
      simp only [chkOpds, Bool.and_eq_true] at hc
      simp only [List.all_cons, Bool.and_eq_true] at ha
      have hy := hev _ _ hc.1
      cases v <;> simp only [V.isInt, Bool.false_eq_true] at hi
      rename_i k a
      cases hyv : ρ y <;> simp only [hyv, V.isInt, Bool.false_eq_true, false_and] at ha
      rename_i k' b
      rw [hyv] at hy
      simp only [VR] at hv hy
      subst hv
      have h2 : ((if mx then Builtin.max2 (.int k a) (ev r) else Builtin.min2 (.int k a) (ev r)).run P E.w) = .ok (.int k (if mx then max a b else min a b)) E.w := by
        rw [hy]
        cases mx
        · simp [Builtin.min2, Int.min_def]
          by_cases h : a ≤ b
          · rw [if_pos h]
            by_cases h' : b < a
            · omega
            · simp [h']
          · rw [if_neg h, if_pos (by omega)]
        · simp [Builtin.max2, Int.max_def]
          by_cases h : a ≤ b
          · rw [if_pos h]
            by_cases h' : a < b
            · simp [h']
            · have : a = b := by omega
              simp [this]
          · rw [if_neg h, if_neg (by omega)]
      obtain ⟨u', h3, h4⟩ := ih (.int k (if mx then max a b else min a b)) (.int k (if mx then max a b else min a b)) (by simp only [VR]) rfl ha.2 hc.2
      refine ⟨u', by simpa [hyv, mm2] using h3, ?_⟩
      simp only [List.map_cons, List.foldlM_cons, Sem.run_bind, h2, Result.andThen_ok]
      exact h4
theorem aq_mm {mx : Bool} {x : Opd} {rest : List Opd} (hev : EvOk E ρ ev) (hc : chkOp P o.op (.mm mx x rest) = true) (h : aq P ρ ob K (.mm mx x rest)) : QRes P E K ((execOp ev o).run P E.w) := by
  simp only [chkOp] at hc
  split at hc
  · rename_i b as ts he
    simp only [Bool.and_eq_true] at hc
    obtain ⟨h0, h1⟩ := hc
    simp only [aq] at h
    obtain ⟨hi, hr, hk⟩ := h
    obtain ⟨as⟩ := as
    cases as with
    | nil => simp [chkOpds] at h1
    | cons p ps =>
      simp only [chkOpds, Bool.and_eq_true] at h1
      obtain ⟨u', h3, h4⟩ := mm_run (P := P) (mx := mx) hev _ _ (hev _ _ h1.1) hi hr h1.2
      refine .value hk h3 ?_
      cases mx
      · have hb : b = .min := by simpa using h0
        subst hb
        simp only [Bool.false_eq_true, if_false] at h4
        simp [execOp, he, resolve, invoke, builtin, Builtin.min_, h4]
      · have hb : b = .max := by simpa using h0
        subst hb
        simp only [if_true] at h4
        simp [execOp, he, resolve, invoke, builtin, Builtin.max_, h4]
  · cases hc
theorem aq_call {f : FuncId} {args : List Opd} (hfun : ∀ g, ev (.func g) = .func (.func g) #[] #[]) (hfin : ∃ n, ∀ j, n ≤ j → E.ι j = none) (hw : E.wf) (hs : SOk E ob) (hev : EvOk E ρ ev) (hc : chkOp P o.op (.call f args) = true) (h : aq P ρ ob K (.call f args)) : QRes P E K ((execOp ev o).run P E.w) := by
  simp only [chkOp] at hc
  split at hc
  · rename_i g as ts he
    simp only [Bool.and_eq_true, beq_iff_eq] at hc
    obtain ⟨rfl, h1⟩ := hc
    simp only [aq] at h
    obtain ⟨r, ⟨hok, hspec⟩, hk⟩ := h
    have hv := hev.list h1
    refine .inr ⟨g, (as.map ev), ?_, ?_⟩
    · unfold okFn at hok
      split at hok
      · rename_i fn hfn
        simp only [Bool.and_eq_true, Bool.not_eq_true', beq_eq_false_iff_ne] at hok
        have hb : fn.body.isNone = false := by
          cases hh : fn.body <;> simp_all
        have hb' : ¬ fn.body = none := by
          intro e
          rw [e] at hb
          cases hb
        simp [execOp, he, resolve, hfun, Deferred.ofValue, invoke, callFunc, hfn, hok.1, hb']
      · cases hok
    · have := hspec E (as.toList.map ev) hw hfin hs hv
      have e : (as.toList.map ev).toArray = as.map ev := by
        apply Array.ext'
        simp
      rw [e] at this
      exact this.mono fun e w' ⟨v, E', h1, h2, h3, h4⟩ => ⟨r, v, E', h1, h2, h3, hk, h4⟩
  · cases hc

theorem eqIn_bool {t : TypeId} (h : P.underlying t = some .bool) (w : World) (d : Nat) (a b : Bool) : (Op.equalIn (d + 1) t (.bool a) (.bool b)).run P w = .ok (a == b) w := by
  simp [Op.equalIn, run_underlying h]
theorem eql_bool {t : TypeId} (h : P.underlying t = some .bool) (w : World) (a b : Bool) : (binOp .eql t (.bool a) (.bool b)).run P w = .ok (.bool (a == b)) w := by
  show ((Op.equalIn (9999 + 1) t (.bool a) (.bool b)) >>= fun r => pure (Value.bool r)).run P w = _
  rw [Sem.run_bind, eqIn_bool h]
  rfl
theorem neq_bool {t : TypeId} (h : P.underlying t = some .bool) (w : World) (a b : Bool) : (binOp .neq t (.bool a) (.bool b)).run P w = .ok (.bool (!(a == b))) w := by
  show ((Op.equalIn (9999 + 1) t (.bool a) (.bool b)) >>= fun r => pure (Value.bool (!r))).run P w = _
  rw [Sem.run_bind, eqIn_bool h]
  rfl
theorem eqIn_nilp {t e : TypeId} (h : P.underlying t = some (.pointer e)) (w : World) (d : Nat) (p : Option Addr) : (Op.equalIn (d + 1) t (.pointer p) (.pointer none)).run P w = .ok p.isNone w := by
  cases p <;> simp [Op.equalIn, run_underlying h]
theorem eql_nilp {t e : TypeId} (h : P.underlying t = some (.pointer e)) (w : World) (p : Option Addr) : (binOp .eql t (.pointer p) (.pointer none)).run P w = .ok (.bool p.isNone) w := by
  show ((Op.equalIn (9999 + 1) t (.pointer p) (.pointer none)) >>= fun r => pure (Value.bool r)).run P w = _
  rw [Sem.run_bind, eqIn_nilp h]
  rfl
theorem neq_nilp {t e : TypeId} (h : P.underlying t = some (.pointer e)) (w : World) (p : Option Addr) : (binOp .neq t (.pointer p) (.pointer none)).run P w = .ok (.bool (!p.isNone)) w := by
  show ((Op.equalIn (9999 + 1) t (.pointer p) (.pointer none)) >>= fun r => pure (Value.bool (!r))).run P w = _
  rw [Sem.run_bind, eqIn_nilp h]
  rfl
theorem VR.int_ {k : IntKind} {n : Int} : VR E (.int k n) (.int k n) := by simp only [VR]
theorem VR.bool_ {b : Bool} : VR E (.bool b) (.bool b) := by simp only [VR]
theorem VR.str_ {s : ByteArray} : VR E (.str s) (.string s) := by simp only [VR]
theorem aq_bin {op : BinOp} {tk : TK} {x y : Opd} (hev : EvOk E ρ ev) (hc : chkOp P o.op (.bin op tk x y) = true) (h : aq P ρ ob K (.bin op tk x y)) : QRes P E K ((execOp ev o).run P E.w) := by
  simp only [chkOp] at hc
  split at hc
  · rename_i op' t x' y' t' he
    simp only [Bool.and_eq_true, beq_iff_eq] at hc
    obtain ⟨⟨⟨rfl, h0⟩, h1⟩, htk⟩ := hc
    have hx := hev _ _ h0
    have hy := hev _ _ h1
    have fin : ∀ (v : Value), (eqGuard op' t x' y' (ev x') (ev y')).run P E.w = .ok () E.w → (binOp op' t (ev x') (ev y')).run P E.w = .ok v E.w → (execOp ev o).run P E.w = .ok (.value v) E.w := by
      intro v hg hv
      simp [execOp, he, hg, hv]
    simp only [aq, binq] at h
    split at h
    · rename_i k a k' b hxa hyb
      rw [hxa] at hx
      rw [hyb] at hy
      simp only [VR] at hx hy
      have hg : (eqGuard op' t x' y' (ev x') (ev y')).run P E.w = .ok () E.w := by
        rw [hx, hy]
        cases op' <;> simp [eqGuard]
      obtain ⟨hk, hq⟩ := h
      cases op' <;> simp only [intq, reduceCtorEq, or_false, false_or, or_true] at hk hq
      case shl =>
        refine .value hq.2 VR.int_ (fin _ hg ?_)
        rw [hx, hy]
        simp [binOp, Op.shift, Int.not_lt.2 hq.1]
      case shr =>
        refine .value hq.2 VR.int_ (fin _ hg ?_)
        rw [hx, hy]
        simp [binOp, Op.shift, Int.not_lt.2 hq.1]
      case quo =>
        subst hk
        refine .value hq.2 VR.int_ (fin _ hg ?_)
        rw [hx, hy]
        simp [binOp, Op.intDiv, hq.1]
      case rem =>
        subst hk
        refine .value hq.2 VR.int_ (fin _ hg ?_)
        rw [hx, hy]
        simp [binOp, Op.intDiv, hq.1]
      case eql =>
        subst hk
        refine .value hq VR.bool_ (fin _ hg ?_)
        rw [hx, hy]
        simp [binOp, Op.intCmp]
        rfl
      case neq =>
        subst hk
        refine .value hq VR.bool_ (fin _ hg ?_)
        rw [hx, hy]
        simp [binOp, Op.intCmp, bne]
        rfl
      case lss =>
        subst hk
        refine .value hq VR.bool_ (fin _ hg ?_)
        rw [hx, hy]
        simp [binOp, Op.intCmp]
      case leq =>
        subst hk
        refine .value hq VR.bool_ (fin _ hg ?_)
        rw [hx, hy]
        simp [binOp, Op.intCmp]
      case gtr =>
        subst hk
        refine .value hq VR.bool_ (fin _ hg ?_)
        rw [hx, hy]
        simp [binOp, Op.intCmp]
      case geq =>
        subst hk
        refine .value hq VR.bool_ (fin _ hg ?_)
        rw [hx, hy]
        simp [binOp, Op.intCmp]
      all_goals
        subst hk
        refine .value hq VR.int_ (fin _ hg ?_)
        rw [hx, hy]
        simp [binOp, Op.intArith, Op.intBits, bitsv]
    · rename_i a b hxa hyb
      rw [hxa] at hx
      rw [hyb] at hy
      simp only [VR] at hx hy
      have hg : (eqGuard op' t x' y' (ev x') (ev y')).run P E.w = .ok () E.w := by
        rw [hx, hy]
        cases op' <;> simp [eqGuard]
      have hbeq : (a.toList == b.toList) = decide (a = b) := by
        by_cases hab : a = b
        · subst hab; simp
        · have : a.toList ≠ b.toList := by
            rw [ByteArray.toList_eq, ByteArray.toList_eq]
            exact fun h => hab (ByteArray.ext (Array.toList_inj.mp h))
          simp [hab, this]
      cases op' <;> simp only [strq] at h
      case add =>
        refine .value h.2 VR.str_ (fin _ hg ?_)
        rw [hx, hy]
        have : ¬ (((a.size + b.size : Nat) : Int) > IntKind.i64.max) := by
          have : IntKind.i64.max = 9223372036854775807 := by decide
          rw [this]
          omega
        have e : (binOp .add t (.string a) (.string b)) = Op.stringOp .add a b := rfl
        rw [e]
        simp only [Op.stringOp, if_neg this, Sem.run_pure]
      all_goals
        refine .value h VR.bool_ (fin _ hg ?_)
        rw [hx, hy]
        simp [binOp, Op.stringOp, hbeq]
    · rename_i a b hxa hyb
      rw [hxa] at hx
      rw [hyb] at hy
      simp only [VR] at hx hy
      have hg : (eqGuard op' t x' y' (ev x') (ev y')).run P E.w = .ok () E.w := by
        rw [hx, hy]
        cases op' <;> simp [eqGuard]
      obtain ⟨rfl, hq⟩ := h
      have hb := isBoolT_spec htk
      cases op' <;> simp only at hq
      all_goals
        refine .value hq VR.bool_ (fin _ hg ?_)
        rw [hx, hy]
        first
          | exact eql_bool hb _ _ _
          | exact neq_bool hb _ _ _
    · rename_i hxa hyb
      rw [hxa] at hx
      rw [hyb] at hy
      simp only [VR] at hx hy
      have hg : (eqGuard op' t x' y' (ev x') (ev y')).run P E.w = .ok () E.w := by
        rw [hx, hy]
        cases op' <;> simp [eqGuard]
      obtain ⟨rfl, hq⟩ := h
      obtain ⟨e, hb⟩ := isPtrT_spec htk
      cases op' <;> simp only at hq
      all_goals
        refine .value hq VR.bool_ (fin _ hg ?_)
        rw [hx, hy]
        first
          | exact eql_nilp hb _ _
          | exact neq_nilp hb _ _
    · rename_i cs hxa hyb
      rw [hxa] at hx
      rw [hyb] at hy
      simp only [VR] at hx hy
      obtain ⟨bb, oo, hx, _⟩ := hx
      have hg : (eqGuard op' t x' y' (ev x') (ev y')).run P E.w = .ok () E.w := by
        rw [hx, hy]
        cases op' <;> simp [eqGuard]
      obtain ⟨rfl, hq⟩ := h
      obtain ⟨e, hb⟩ := isPtrT_spec htk
      cases op' <;> simp only at hq
      all_goals
        refine .value hq VR.bool_ (fin _ hg ?_)
        rw [hx, hy]
        first
          | exact eql_nilp hb _ _
          | exact neq_nilp hb _ _
    · cases h
  · cases hc

theorem isSMapT_spec {t : TypeId} (h : isSMapT P t = true) : ∃ k e i, P.underlying t = some (.map k e) ∧ P.underlying k = some .string ∧ P.info? e = some i ∧ i.zero = some (.int .i64 0) := by
  unfold isSMapT at h
  split at h
  · rename_i k e hu
    simp only [Bool.and_eq_true] at h
    obtain ⟨h1, h2⟩ := h
    split at h2
    · rename_i hz
      obtain ⟨i, hi, hz⟩ := Option.bind_eq_some_iff.1 hz
      exact ⟨k, e, i, hu, isStrT_spec h1, hi, hz⟩
    · cases h2
  · cases h
theorem findNow_str (s : ByteArray) (m : ByteArray → Int) : ∀ (ks : List ByteArray) (ents : List MapEntry) (i : Nat), ents.map (·.key) = ks.map Value.string → ents.map (·.val) = ks.map (fun k => Value.int .i64 (m k)) →
    (s ∉ ks ∧ Instr.findNow .string (.string s) ents i = some none) ∨ ∃ j, ks[j]? = some s ∧ Instr.findNow .string (.string s) ents i = some (some (i + j, .int .i64 (m s)))
  | [], [], i, _, _ => .inl ⟨by simp, rfl⟩
  | [], _ :: _, _, h, _ => by simp at h
  | _ :: _, [], _, h, _ => by simp at h
  | k :: ks, e :: es, i, h1, h2 => by
    simp only [List.map_cons, List.cons.injEq] at h1 h2
    by_cases hk : s = k
    · subst hk
      refine .inr ⟨0, rfl, ?_⟩
      have hb : (s == s) = true := (Go.MapKept.bytes_beq s s).2 rfl
      simp [Instr.findNow, h1.1, Instr.sameNow, h2.1, hb]
    · have hne : (s == k) = false := by
        cases hb : (s == k) with
        | false => rfl
        | true => exact absurd ((Go.MapKept.bytes_beq s k).1 hb) hk
      have hrec : Instr.findNow .string (.string s) (e :: es) i = Instr.findNow .string (.string s) es (i + 1) := by
        simp [Instr.findNow, h1.1, Instr.sameNow, hne]
      rcases findNow_str s m ks es (i + 1) h1.2 h2.2 with ⟨h3, h4⟩ | ⟨j, h3, h4⟩
      · exact .inl ⟨by simp [hk, h3], by rw [hrec, h4]⟩
      · exact .inr ⟨j + 1, by simpa using h3, by rw [hrec, h4, Nat.add_assoc, Nat.add_comm 1 j]⟩
theorem lookup_str {t : TypeId} (ht : isSMapT P t = true) {w : World} {b : Nat} {ents : Array MapEntry} {clock : Nat} (hh : w.heap[b]? = some (.map ents clock)) {ks : List ByteArray} {m : ByteArray → Int} (hm : MapOk ks m ents.toList) (s : ByteArray) :
    (Instr.lookup t (.map (some b)) (.string s) false).run P w = .ok (.int .i64 (m s)) w := by
  obtain ⟨k, e, i, h1, h2, h3, h4⟩ := isSMapT_spec ht
  obtain ⟨_, hk, hv, hd⟩ := hm
  have hck : ∀ b : Bool, (Instr.checkKey b 10000 k (.string s)).run P w = .ok () w := by
    intro b
    have key : ∀ n, (Instr.checkKey b (n + 1) k (.string s)).run P w = .ok () w := by
      intro n
      simp [Instr.checkKey, run_underlying h2]
    exact key 9999
  have hget : (getObj b).run P w = .ok (.map ents clock) w := by simp [getObj, Sem.run, hh]
  rcases findNow_str s m ks ents.toList 0 hk hv with ⟨h5, h6⟩ | ⟨j, h5, h6⟩
  · simp [Instr.lookup, run_underlying h1, hget, hck, Instr.findKey, run_underlying h2, h6, zeroValue, typeInfo, h3, h4, hd s h5]
  · simp [Instr.lookup, run_underlying h1, hget, hck, Instr.findKey, run_underlying h2, h6]
theorem aq_lk {x k : Opd} (hs : SOk E ob) (hev : EvOk E ρ ev) (hc : chkOp P o.op (.lk x k) = true) (h : aq P ρ ob K (.lk x k)) : QRes P E K ((execOp ev o).run P E.w) := by
  simp only [chkOp] at hc
  split at hc
  · rename_i t p q he
    simp only [Bool.and_eq_true] at hc
    obtain ⟨⟨h0, h1⟩, h2⟩ := hc
    have hx := hev _ _ h0
    have hk := hev _ _ h1
    simp only [aq] at h
    split at h
    · rename_i i s hxs hks
      rw [hxs] at hx
      rw [hks] at hk
      simp only [VR] at hx hk
      obtain ⟨b, hi, hv⟩ := hx
      obtain ⟨ks, m, hob, hK⟩ := h
      obtain ⟨b', ents, clock, hi', hh, hm, _⟩ := hs.ok _ _ hob
      rw [hi] at hi'
      simp only [Option.some.injEq, Prod.mk.injEq, and_true] at hi'
      subst hi'
      exact .value hK VR.int_ (by simp [execOp, he, hv, hk, lookup_str h2 hh hm s])
    · rename_i ks m s hxs hks
      rw [hxs] at hx
      rw [hks] at hk
      simp only [VR] at hx hk
      obtain ⟨b, ents, clock, hv, _, hh, hm⟩ := hx
      exact .value h VR.int_ (by simp [execOp, he, hv, hk, lookup_str h2 hh hm s])
    · cases h
  · cases hc
end
end Go.Proofs.Fathom
