/- A part of the proof of 'Rows.QueryReadUptoSaid': for every text and every seeds (of bulk at most 1048576 together) fathomlaw19.QueryRead returns true and its arguments read afterwards as before. -/
import Derived.Test.YtaikjbfkbijlnaaGreatF04
import Derived.Laws.MakeOwn
import Derived.Laws.CopyRow
set_option linter.unusedVariables false
set_option linter.unusedSimpArgs false
namespace Go.Proofs.Fathom
open Go

inductive EOp where
  | alloc (zero : List V)
  | boxO (x : Opd)
  | st (n : Nat) (p x : Opd)
  | app (z by_ : Nat) (x y : Opd)
  | appr (z by_ : Nat) (x y : Opd)
  | appn (z by_ : Nat) (x y : Opd)
  | mks (z by_ : Nat) (zero : List V) (n : Opd)
  | mkm
  | updm (m k v : Opd)
  | call (c : Opd) (args : List Opd)

def splice (cs : List V) (off : Nat) (ds : List V) : List V := cs.take off ++ ds ++ cs.drop (off + ds.length)

/-- Objects laid over objects. -/
def Obs.ov (ob : Obs) : List (Nat × AObj) → Obs
  | [] => ob
  | (i, o) :: r => upd (Obs.ov ob r) i (some o)

/-- A call that may change the objects of L, to those of L'; names from n on are new. -/
structure CFr (E E' : Env) (L L' : List (Nat × AObj)) (n n' : Nat) : Prop where
  le : E.le E'
  wf : E'.wf
  ι : ∀ j, j < n → (∀ o, (j, o) ∉ L) → E'.ι j = E.ι j
  nx : ∀ j, n' ≤ j → E'.ι j = none
  block : ∀ b, b < E.w.heap.size → (∀ i o m, (i, o) ∈ L → E.ι i ≠ some (some b, m)) → E'.w.heap[b]? = E.w.heap[b]?
  F : ∀ b o, E'.F b o → E.F b o ∨ E.w.heap.size ≤ b ∨ ∃ i o m, (i, o) ∈ L ∧ E.ι i = some (some b, m)
  M : ∀ b, E'.M b → E.M b ∨ E.w.heap.size ≤ b ∨ ∃ i o m, (i, o) ∈ L ∧ E.ι i = some (some b, m)
  size : E.w.heap.size ≤ E'.w.heap.size
  os : E'.w.os = E.w.os
  tape : E'.w.tape = E.w.tape
  output : E'.w.output = E.w.output
  new : ∀ i o b m, (i, o) ∈ L' → E'.ι i = some (some b, m) → E.w.heap.size ≤ b ∨ ∃ i o m, (i, o) ∈ L ∧ E.ι i = some (some b, m)

def CSpec (P : Program) (f : FuncId) (args : List V) (L : List (Nat × AObj)) (n : Nat) (r : V) (L' : List (Nat × AObj)) (n' : Nat) : Prop :=
  okFn P f = true ∧ ∀ (E : Env) (vals : List Value), E.wf → (∀ j, n ≤ j → E.ι j = none) → SOk E (Obs.ov (fun _ => none) L) → VRs E args vals →
    Calls P f vals.toArray E.w fun e w' => ∃ v E', e = .returned v ∧ E'.w = w' ∧ CFr E E' L L' n n' ∧ SOk E' (Obs.ov (fun _ => none) L') ∧ VR E' r v
/-- A function that changes objects, of which some things alone are told. -/
def CSpecE (P : Program) (f : FuncId) (args : List V) (L : List (Nat × AObj)) (n : Nat) (Φ : V → List (Nat × AObj) → Nat → Prop) : Prop :=
  okFn P f = true ∧ ∀ (E : Env) (vals : List Value), E.wf → (∀ j, n ≤ j → E.ι j = none) → SOk E (Obs.ov (fun _ => none) L) → VRs E args vals →
    Calls P f vals.toArray E.w fun e w' => ∃ v E' r L' n', Φ r L' n' ∧ e = .returned v ∧ E'.w = w' ∧ CFr E E' L L' n n' ∧ SOk E' (Obs.ov (fun _ => none) L') ∧ VR E' r v
theorem CSpec.e {P : Program} {f : FuncId} {args : List V} {L : List (Nat × AObj)} {n : Nat} {r : V} {L' : List (Nat × AObj)} {n' : Nat} (h : CSpec P f args L n r L' n') : CSpecE P f args L n fun r1 L1 n1 => r1 = r ∧ L1 = L' ∧ n1 = n' :=
  ⟨h.1, fun E vals h1 h2 h3 h4 => (h.2 E vals h1 h2 h3 h4).mono fun e w' ⟨v, E', a, b, c, d, g⟩ => ⟨v, E', r, L', n', ⟨rfl, rfl, rfl⟩, a, b, c, d, g⟩⟩

def ae (P : Program) (S : St) (K : St → V → Prop) : EOp → Prop
  | .alloc zero => K { S with ob := upd S.ob S.nx (some (.cells zero)), nx := S.nx + 1 } (.ptr S.nx 0)
  | .boxO x => (S.ev x).okc = true ∧ K { S with ob := upd S.ob S.nx (some (.cells (S.ev x).cells)), nx := S.nx + 1 } (.ptr S.nx 0)
  | .st n p x => (S.ev x).okc = true ∧ (S.ev x).cells.length = n ∧ match S.ev p with
    | .ptr i off => ∃ cs, S.ob i = some (.cells cs) ∧ off + n ≤ cs.length ∧ K { S with ob := upd S.ob i (some (.cells (splice cs off (S.ev x).cells))) } .junk
    | .rptr i m z j f => ∃ xs c, S.ob i = some (.row z xs) ∧ xs.length = m ∧ xs[j]? = some c ∧ f + n ≤ c.length ∧ K { S with ob := upd S.ob i (some (.row z (xs.set j (splice c f (S.ev x).cells)))) } .junk
    | _ => False
  | .app z by_ x y => match S.ev x, S.ev y with
    | .sl tk z' xs, .sl _ z'' ys => z' = z ∧ (z'' = z ∨ ys = []) ∧ (xs.length + ys.length) * by_ ≤ 140737488355328 ∧
        (match tk with
        | .tip i => S.ob i = some (.tip z xs.length) ∧ K { S with ob := upd S.ob i (some (.tip z (xs.length + ys.length))) } (.sl (.tip i) z (xs ++ ys))
        | .full => K { S with ob := upd S.ob S.nx (some (.tip z (xs.length + ys.length))), nx := S.nx + 1 } (.sl (.tip S.nx) z (xs ++ ys))
        | .no => False)
    | _, _ => False
  | .appr z by_ x y => match S.ev x, S.ev y with
    | .row i n z' o l, .sl _ z'' ys => z' = z ∧ (z'' = z ∨ ys = []) ∧ o = 0 ∧ l = n ∧ (n + ys.length) * by_ ≤ 140737488355328 ∧
        ∃ xs, S.ob i = some (.row z xs) ∧ xs.length = n ∧ K { S with ob := upd S.ob i (some (.row z (xs ++ ys))) } (.row i (n + ys.length) z 0 (n + ys.length))
    | _, _ => False
  | .appn z by_ x y => match S.ev x, S.ev y with
    | .sl .full _ [], .sl _ z'' ys => (z'' = z ∨ ys = []) ∧ ys.length * by_ ≤ 140737488355328 ∧
        K { S with ob := upd S.ob S.nx (some (.row z ys)), nx := S.nx + 1 } (.row S.nx ys.length z 0 ys.length)
    | _, _ => False
  | .mks z by_ zero n => match S.ev n with
    | .int _ m => 0 ≤ m ∧ m.toNat * by_ ≤ 140737488355328 ∧ K { S with ob := upd S.ob S.nx (some (.row z (List.replicate m.toNat zero))), nx := S.nx + 1 } (.row S.nx m.toNat z 0 m.toNat)
    | _ => False
  | .mkm => K { S with ob := upd S.ob S.nx (some (.map [] fun _ => 0)), nx := S.nx + 1 } (.map S.nx)
  | .updm m k v => match S.ev m, S.ev k, S.ev v with
    | .map i, .str s, .int kk n => kk = .i64 ∧ ∃ ks mm, S.ob i = some (.map ks mm) ∧
        K { S with ob := upd S.ob i (some (.map (if ks.any (fun k => decide (k = s)) then ks else ks ++ [s]) (fun x => if x = s then n else mm x))) } .junk
    | _, _, _ => False
  | .call c args => match S.ev c with
    | .fn f caps => ∃ L Φ, CSpecE P f (args.map S.ev ++ caps) L S.nx Φ ∧ (∀ p ∈ L, S.ob p.1 = some p.2) ∧ ∀ r L' n', Φ r L' n' → (∀ p ∈ L, ∃ o, (p.1, o) ∈ L') ∧ (∀ p ∈ L', p.1 < n' ∧ ((∃ o, (p.1, o) ∈ L) ∨ S.nx ≤ p.1)) ∧ S.nx ≤ n' ∧
        K { S with ob := Obs.ov S.ob L', nx := n' } r
    | _ => False

def chkEOp (P : Program) (o : Op) : EOp → Bool
  | .alloc zero => match o with
    | .alloc t => zeroOk P t zero
    | _ => false
  | .boxO x => match o with
    | .box _ p => chkOpd p x
    | _ => false
  | .st n p x => match o with
    | .store t p' x' => chkOpd p' p && chkOpd x' x && sizeT P t == some n
    | _ => false
  | .app z by_ x y => match o with
    | .call { callee := .builtin .append, args := as, argTypes := ts } => chkOpds as.toList [x, y] && (match ts.toList with
      | [t, u] => t == u && (match elemT P t with
        | some e => (match P.info? e with | some i => i.size == z && i.bytes == by_ && (match i.zero with | some v => v.cells.size == z | none => false) && decide (0 < by_) | none => false)
        | none => false)
      | _ => false)
    | _ => false
  | .appr z by_ x y => match o with
    | .call { callee := .builtin .append, args := as, argTypes := ts } => chkOpds as.toList [x, y] && (match ts.toList with
      | [t, u] => t == u && (match elemT P t with
        | some e => (match P.info? e with | some i => i.size == z && i.bytes == by_ && (match i.zero with | some v => v.cells.size == z | none => false) && decide (0 < by_) | none => false)
        | none => false)
      | _ => false)
    | _ => false
  | .appn z by_ x y => match o with
    | .call { callee := .builtin .append, args := as, argTypes := ts } => chkOpds as.toList [x, y] && (match ts.toList with
      | [t, u] => t == u && (match elemT P t with
        | some e => (match P.info? e with | some i => i.size == z && i.bytes == by_ && (match i.zero with | some v => v.cells.size == z | none => false) && decide (0 < by_) | none => false)
        | none => false)
      | _ => false)
    | _ => false
  | .mks z by_ zero n => match o with
    | .makeSlice t l c => chkOpd l n && chkOpd c n && (match elemT P t with
        | some e => zeroOk P e zero && (match P.info? e with | some i => i.size == z && i.bytes == by_ && decide (0 < by_) && zero.length == z | none => false)
        | none => false)
    | _ => false
  | .mkm => match o with
    | .makeMap _ none => true
    | _ => false
  | .updm m k v => match o with
    | .mapUpdate t p q r => chkOpd p m && chkOpd q k && chkOpd r v && isSMapT P t
    | _ => false
  | .call c args => match o with
    | .call { callee := .value p, args := as, argTypes := _ } => chkOpd p c && chkOpds as.toList args
    | _ => false

/-- A new block. -/
theorem heap_new (w : World) (o : Obj) : (w.alloc o).heap[w.heap.size]? = some o := heap_alloc_new w o
def Env.mk1 (E : Env) (o : Obj) (i : Nat) (n : Nat) (fz : Nat → Prop) : Env :=
  { E with w := E.w.alloc o, F := fun b k => E.F b k ∨ (b = E.w.heap.size ∧ fz k), ι := upd E.ι i (some (some E.w.heap.size, n)) }
theorem Env.st_mk1 {E : Env} (hw : E.wf) (o : Obj) {i n : Nat} (fz : Nat → Prop) (hi : ∀ b m, E.ι i = some (b, m) → m < n ∧ m ≠ 0) : E.st (E.mk1 o i n fz) i where
  le := by
    refine ⟨fun j b m hj => ?_, fun b k h => .inl h, fun b k h => ?_, fun b h => ⟨h, ?_⟩, fun b cur e h => ⟨cur, ?_, rfl⟩⟩
    · by_cases hji : j = i
      · subst hji
        refine ⟨some E.w.heap.size, n, by simp [Env.mk1, upd], ?_, ?_, ?_⟩
        · have := hi b m hj; omega
        · intro e; have := hi b m hj; omega
        · intro e
          exact absurd e (hi b m hj).2
      · exact ⟨b, m, by simp [Env.mk1, upd, hji, hj], Nat.le_refl _, fun _ => rfl, fun h => h⟩
    · exact World.cell?_of_block (w := E.w) (a := ⟨b, k, none⟩) (heap_alloc_old E.w o b (hw.F b k h))
    · exact heap_alloc_old E.w o b (hw.M b h)
    · simp only [Env.mk1]
      rw [heap_alloc_old E.w o b (heap_lt h)]
      exact h
  wf := ⟨fun b k h => by
    simp only [Env.mk1, World.size_alloc]
    rcases h with h | ⟨rfl, _⟩
    · have := hw.F b k h; omega
    · omega, fun b h => by
    have := hw.M b h
    simp only [Env.mk1, World.size_alloc]
    omega, fun b h => by
    obtain ⟨ents, clock, z⟩ := hw.K b h
    exact ⟨ents, clock, by simp only [Env.mk1]; rw [heap_alloc_old E.w o b (hw.M b h)]; exact z⟩⟩
  ι := fun j hj => by simp [Env.mk1, upd, hj]
  block := fun b hb _ => heap_alloc_old E.w o b hb
  F := fun b k h => by
    rcases h with h | ⟨rfl, _⟩
    · exact .inl h
    · exact .inr (.inl (Nat.le_refl _))
  M := fun b h => .inl h
  size := by simp [Env.mk1]
  os := rfl
  tape := rfl
  output := rfl
  new := fun b m h => by
    simp only [Env.mk1, upd_same, Option.some.injEq, Prod.mk.injEq] at h
    omega

/-- What an operation that changes objects comes to. -/
def ERes (P : Program) (E : Env) (i : Nat) (o' : AObj) (c : V) (r : Result Next) : Prop :=
  ∃ E', E.st E' i ∧ ObjOk E' i o' ∧ ((∃ v, VR E' c v ∧ r = .ok (.value v) E'.w) ∨ (c = .junk ∧ r = .ok .skip E'.w))

section
variable {P : Program} {E : Env} {ρ : Opd → V} {ev : Operand → Value} {ob : Obs} {o : Oper}

theorem e_newobj (hw : E.wf) {i : Nat} (hi : E.ι i = none) {cs : List V} {vs : Array Value} (t : TypeId) (h1 : AllOne vs.toList) (h2 : VRs E cs vs.toList) (r : Result Next)
    (hr : r = .ok (.value (.pointer (some ⟨E.w.heap.size, 0, none⟩))) (E.w.alloc (.cells vs t))) : ERes P E i (.cells cs) (.ptr i 0) r := by
  have hst := Env.st_mk1 hw (.cells vs t) (i := i) (n := 0) (fun _ => False) (fun b m h => by rw [hi] at h; cases h)
  refine ⟨_, hst, ⟨E.w.heap.size, vs, t, by simp [Env.mk1, upd], heap_new _ _, h1, h2.mono hst.le, fun o hf => ?_⟩, .inl ⟨_, ?_, hr⟩⟩
  · rcases hf with hf | ⟨_, hf⟩
    · have := hw.F _ _ hf; omega
    · exact hf
  · simp only [VR]
    exact ⟨E.w.heap.size, by simp [Env.mk1, upd], rfl⟩
theorem ae_alloc {zero : List V} {i : Nat} (hw : E.wf) (hi : E.ι i = none) (hc : chkEOp P o.op (.alloc zero) = true) : ERes P E i (.cells zero) (.ptr i 0) ((execOp ev o).run P E.w) := by
  simp only [chkEOp] at hc
  split at hc
  · rename_i t he
    obtain ⟨inf, z, h1, h2, h3, h4⟩ := zeroOk_spec hc E
    refine e_newobj hw hi t h3 h4 _ ?_
    simp [execOp, he, Instr.alloc, zeroValue, typeInfo, h1, h2, newVar, newRow]
  · cases hc
theorem ae_boxO {x : Opd} {i : Nat} (hw : E.wf) (hi : E.ι i = none) (hev : EvOk E ρ ev) (hc : chkEOp P o.op (.boxO x) = true) (h : (ρ x).okc = true) : ERes P E i (.cells (ρ x).cells) (.ptr i 0) ((execOp ev o).run P E.w) := by
  simp only [chkEOp] at hc
  split at hc
  · rename_i t p he
    obtain ⟨h3, h4⟩ := (hev _ _ hc).stored h
    refine e_newobj hw hi t h3 h4 _ ?_
    simp [execOp, he, Instr.box, newVar, newRow]
  · cases hc
theorem ae_mkm {i : Nat} (hw : E.wf) (hi : E.ι i = none) (hc : chkEOp P o.op .mkm = true) : ERes P E i (.map [] fun _ => 0) (.map i) ((execOp ev o).run P E.w) := by
  simp only [chkEOp] at hc
  split at hc
  · rename_i t he
    have hst := Env.st_mk1 hw (.map #[] 0) (i := i) (n := 0) (fun _ => False) (fun b m h => by rw [hi] at h; cases h)
    refine ⟨_, hst, ⟨E.w.heap.size, #[], 0, by simp [Env.mk1, upd], heap_new _ _, ⟨by simp, by simp, by simp, by simp⟩, fun hm => ?_⟩, .inl ⟨.map (some E.w.heap.size), ?_, ?_⟩⟩
    · have := hw.M _ hm; omega
    · simp only [VR]
      exact ⟨E.w.heap.size, by simp [Env.mk1, upd], rfl⟩
    · simp [execOp, he, Instr.makeMap, Env.mk1]
  · cases hc

/-- Cells of one block are set anew. -/
theorem Env.st_set {E : Env} (hw : E.wf) {b : Nat} {cur cur' : Array Value} {e : TypeId} (hh : E.w.heap[b]? = some (.cells cur e (0, 0))) (hsz : cur'.size = cur.size) {i n n' : Nat} (hi : E.ι i = some (some b, n)) (hn : n ≤ n') (hz : n = 0 → n' = 0)
    (fz : Nat → Prop) (hkeep : ∀ k, E.F b k → cur'[k]? = cur[k]?) : E.st { E with w := E.w.setRow b cur', ι := upd E.ι i (some (some b, n')), F := fun g k => E.F g k ∨ (g = b ∧ fz k) } i where
  le := by
    refine ⟨fun j g m hj => ?_, fun g k h => .inl h, fun g k h => ?_, fun g h => ⟨h, ?_⟩, fun g c e' h => ?_⟩
    · by_cases hji : j = i
      · subst hji
        rw [hi] at hj
        simp only [Option.some.injEq, Prod.mk.injEq] at hj
        obtain ⟨rfl, rfl⟩ := hj
        exact ⟨some b, n', by simp [upd], hn, fun _ => rfl, hz⟩
      · exact ⟨g, m, by simp [upd, hji, hj], Nat.le_refl _, fun _ => rfl, fun h => h⟩
    · by_cases hgb : g = b
      · subst hgb
        simp only
        rw [cell_setRow_same E.w g k cur cur' e (0, 0) hh, cell_of_row E.w g k cur e (0, 0) hh]
        exact hkeep k h
      · exact cell_setRow_other E.w b cur' ⟨g, k, none⟩ hgb
    · by_cases hgb : g = b
      · subst hgb
        obtain ⟨ents, clock, z⟩ := hw.K g h
        rw [hh] at z
        cases z
      · exact setRow_other E.w b g cur' hgb
    · by_cases hgb : g = b
      · subst hgb
        rw [hh] at h
        cases h
        exact ⟨cur', setRow_heap E.w g cur cur' e (0, 0) hh, hsz⟩
      · refine ⟨c, ?_, rfl⟩
        simp only
        rw [setRow_other E.w b g cur' hgb]
        exact h
  wf := ⟨fun g k h => by
    simp only [setRow_size]
    rcases h with h | ⟨rfl, _⟩
    · exact hw.F g k h
    · exact heap_lt hh, fun g h => by
    simp only [setRow_size]
    exact hw.M g h, fun g h => by
    obtain ⟨ents, clock, z⟩ := hw.K g h
    have hgb : g ≠ b := by
      intro e
      subst e
      rw [hh] at z
      cases z
    exact ⟨ents, clock, by simp only; rw [setRow_other E.w b g cur' hgb]; exact z⟩⟩
  ι := fun j hj => by simp [upd, hj]
  block := fun g hg hne => by
    by_cases hgb : g = b
    · subst hgb
      exact absurd hi (hne n)
    · exact setRow_other E.w b g cur' hgb
  F := fun g k h => by
    rcases h with h | ⟨rfl, _⟩
    · exact .inl h
    · exact .inr (.inr ⟨n, hi⟩)
  M := fun g h => .inl h
  size := by simp
  os := rfl
  tape := rfl
  output := rfl
  new := fun g m h => by
    simp only [upd_same, Option.some.injEq, Prod.mk.injEq] at h
    obtain ⟨rfl, rfl⟩ := h
    exact .inr ⟨n, hi⟩

theorem store_run {t : TypeId} {b off : Nat} {cur : Array Value} {e : TypeId} {v : Value} {n : Nat} {w : World} (hh : w.heap[b]? = some (.cells cur e (0, 0))) (hsz : sizeT P t = some n) (hn : v.cells.size = n)
    (hfit : off + n ≤ cur.size) (h1 : AllOne v.cells.toList) :
    (Instr.storeAt t (.pointer (some ⟨b, off, none⟩)) v).run P w = .ok () (w.setRow b (cur.toList.take off ++ v.cells.toList ++ cur.toList.drop (off + n)).toArray) := by
  have hst := run_storeCells_at P b off e v.cells.toList 0 cur w hh (by simp; omega) h1
  simp only [Nat.add_zero, Array.length_toList, hn] at hst
  simp [Instr.storeAt, Instr.sureAddr, storeVar, sizeT_run hsz, hn, hst]
theorem ae_st_ptr {n : Nat} {p x : Opd} {i off : Nat} {cs : List V} (hw : E.wf) (hs : SOk E ob) (hev : EvOk E ρ ev) (hc : chkEOp P o.op (.st n p x) = true)
    (hp : ρ p = .ptr i off) (hx : (ρ x).okc = true) (hn : (ρ x).cells.length = n) (hob : ob i = some (.cells cs)) (hfit : off + n ≤ cs.length) :
    ERes P E i (.cells (splice cs off (ρ x).cells)) .junk ((execOp ev o).run P E.w) := by
  simp only [chkEOp] at hc
  split at hc
  · rename_i t p' x' he
    simp only [Bool.and_eq_true, beq_iff_eq] at hc
    obtain ⟨⟨h0, h1⟩, hsz⟩ := hc
    have hpv := hev _ _ h0
    rw [hp] at hpv
    simp only [VR] at hpv
    obtain ⟨b, hi, hpv⟩ := hpv
    obtain ⟨b', cur, e, hi', hh, hone, hr, hnf⟩ := hs.ok _ _ hob
    rw [hi] at hi'
    simp only [Option.some.injEq, Prod.mk.injEq, and_true] at hi'
    subst hi'
    obtain ⟨h3, h4⟩ := (hev _ _ h1).stored hx
    have hl := h4.length
    have hl2 := hr.length
    simp only [Array.length_toList] at hl hl2
    have hsx : (ev x').cells.size = n := by omega
    have hrun := store_run (P := P) (w := E.w) (v := ev x') (off := off) hh hsz hsx (by omega) h3
    have hlen : (cur.toList.take off ++ (ev x').cells.toList ++ cur.toList.drop (off + n)).toArray.size = cur.size := by
      simp only [List.size_toArray, List.length_append, List.length_take, List.length_drop, Array.length_toList]
      omega
    have hst := Env.st_set hw hh hlen hi (Nat.le_refl 0) (fun h => h) (fun _ => False) (fun k hk => absurd hk (hnf k))
    refine ⟨_, hst, ⟨b, _, e, by simp [upd], setRow_heap E.w b cur _ e (0, 0) hh, ?_, ?_, ?_⟩, .inr ⟨rfl, ?_⟩⟩
    · intro u hu
      simp only [List.mem_append] at hu
      rcases hu with (hu | hu) | hu
      · exact hone u (List.mem_of_mem_take hu)
      · exact h3 u hu
      · exact hone u (List.mem_of_mem_drop hu)
    · refine VRs.mono hst.le ?_
      simp only [splice]
      rw [hn]
      exact ((hr.take off).append h4).append (hr.drop _)
    · rintro k (hk | ⟨_, hk⟩)
      · exact hnf k hk
      · exact hk
    · simp [execOp, he, hpv, hrun]
  · cases hc
theorem flatten_set {z : Nat} : ∀ {xs : List (List V)}, (∀ c ∈ xs, c.length = z) → ∀ {j : Nat} {c d : List V} {f : Nat}, xs[j]? = some c → f + d.length ≤ z →
    (xs.set j (splice c f d)).flatten = xs.flatten.take (j * z + f) ++ d ++ xs.flatten.drop (j * z + f + d.length)
  | [], _, _, _, _, _, hj, _ => by simp at hj
  | a :: xs, hz, j, c, d, f, hj, hf => by
    have ha := hz a (by simp)
    cases j with
    | zero =>
      simp only [List.getElem?_cons_zero, Option.some.injEq] at hj
      subst hj
      simp only [List.set_cons_zero, List.flatten_cons, Nat.zero_mul, Nat.zero_add, splice]
      rw [List.take_append_of_le_length (by omega), List.drop_append_of_le_length (by omega)]
      simp
    | succ j =>
      simp only [List.getElem?_cons_succ] at hj
      have ih := flatten_set (fun c hc => hz c (by simp [hc])) hj hf
      simp only [List.set_cons_succ, List.flatten_cons, ih]
      rw [show (j + 1) * z + f = a.length + (j * z + f) by rw [Nat.succ_mul]; omega]
      rw [show a.length + (j * z + f) + d.length = a.length + (j * z + f + d.length) by omega]
      rw [List.take_length_add_append, List.drop_length_add_append]
      simp
theorem splice_length {c d : List V} {f : Nat} (h : f + d.length ≤ c.length) : (splice c f d).length = c.length := by
  simp only [splice, List.length_append, List.length_take, List.length_drop]
  omega
theorem ae_st_row {n : Nat} {p x : Opd} {i m z j f : Nat} {xs : List (List V)} {c : List V} (hw : E.wf) (hs : SOk E ob) (hev : EvOk E ρ ev) (hc : chkEOp P o.op (.st n p x) = true)
    (hp : ρ p = .rptr i m z j f) (hx : (ρ x).okc = true) (hn : (ρ x).cells.length = n) (hob : ob i = some (.row z xs)) (hm : xs.length = m) (hj : xs[j]? = some c) (hfit : f + n ≤ c.length) :
    ERes P E i (.row z (xs.set j (splice c f (ρ x).cells))) .junk ((execOp ev o).run P E.w) := by
  simp only [chkEOp] at hc
  split at hc
  · rename_i t p' x' he
    simp only [Bool.and_eq_true, beq_iff_eq] at hc
    obtain ⟨⟨h0, h1⟩, hsz⟩ := hc
    have hpv := hev _ _ h0
    rw [hp] at hpv
    simp only [VR, RptrOk] at hpv
    obtain ⟨_, b, n', hi, hle, hpv⟩ := hpv
    subst hm
    obtain ⟨b', hi', hz, hreal⟩ := hs.ok _ _ hob
    rw [hi] at hi'
    simp only [Option.some.injEq, Prod.mk.injEq, Nat.add_right_cancel_iff] at hi'
    obtain ⟨rfl, rfl⟩ := hi'
    obtain ⟨g', hg', hpv'⟩ := hpv rfl
    subst hg'
    obtain ⟨cur, e, hh, hsize, hone, hr, hnf⟩ := hreal
    obtain ⟨h3, h4⟩ := (hev _ _ h1).stored hx
    have hl := h4.length
    have hl2 := hr.length
    have hfl := flatten_len hz
    have hcz := hz c (List.mem_of_getElem? hj)
    have hjl := (List.getElem?_eq_some_iff.1 hj).1
    have hmul : j * z + z ≤ xs.length * z := by
      rw [← Nat.succ_mul]
      exact Nat.mul_le_mul_right _ hjl
    simp only [Array.length_toList] at hl
    have hsx : (ev x').cells.size = n := by omega
    have hrun := store_run (P := P) (w := E.w) (v := ev x') (off := j * z + f) hh hsz hsx (by omega) h3
    have hlen : (cur.toList.take (j * z + f) ++ (ev x').cells.toList ++ cur.toList.drop (j * z + f + n)).toArray.size = cur.size := by
      simp only [List.size_toArray, List.length_append, List.length_take, List.length_drop, Array.length_toList]
      omega
    have hst := Env.st_set hw hh hlen hi (Nat.le_refl _) (fun h => h) (fun _ => False) (fun k hk => absurd hk (hnf k))
    have htake : (cur.toList.take (j * z + f) ++ (ev x').cells.toList ++ cur.toList.drop (j * z + f + n)).take (xs.length * z) =
        (cur.toList.take (xs.length * z)).take (j * z + f) ++ (ev x').cells.toList ++ (cur.toList.take (xs.length * z)).drop (j * z + f + n) := by
      rw [List.take_append, List.take_of_length_le (by
        simp only [List.length_append, List.length_take, Array.length_toList]
        omega)]
      rw [List.take_take, Nat.min_eq_left (by omega), List.drop_take]
      congr 2
      simp only [List.length_append, List.length_take, Array.length_toList]
      omega
    refine ⟨_, hst, ⟨some g', by simp [upd], ?_, _, e, setRow_heap E.w g' cur _ e (0, 0) hh, ?_, ?_, ?_, ?_⟩, .inr ⟨rfl, ?_⟩⟩
    · intro d hd
      rcases List.mem_or_eq_of_mem_set hd with hd | rfl
      · exact hz d hd
      · rw [splice_length (by omega)]
        exact hcz
    · rw [List.length_set, hlen]
      exact hsize
    · rw [List.length_set]
      simp only
      rw [htake]
      intro u hu
      simp only [List.mem_append] at hu
      rcases hu with (hu | hu) | hu
      · exact hone u (List.mem_of_mem_take hu)
      · exact h3 u hu
      · exact hone u (List.mem_of_mem_drop hu)
    · refine VRs.mono hst.le ?_
      rw [List.length_set, flatten_set hz hj (by omega)]
      simp only
      rw [htake, hn]
      exact ((hr.take _).append h4).append (hr.drop _)
    · rintro k (hk | ⟨_, hk⟩)
      · exact hnf k hk
      · exact hk
    · simp [execOp, he, hpv', hrun]
  · cases hc
theorem ae_mks {z by_ : Nat} {zero : List V} {n : Opd} {i : Nat} {kk : IntKind} {m : Int} (hw : E.wf) (hi : E.ι i = none) (hev : EvOk E ρ ev) (hc : chkEOp P o.op (.mks z by_ zero n) = true)
    (hn : ρ n = .int kk m) (h0 : 0 ≤ m) (hb : m.toNat * by_ ≤ 140737488355328) :
    ERes P E i (.row z (List.replicate m.toNat zero)) (.row i m.toNat z 0 m.toNat) ((execOp ev o).run P E.w) := by
  simp only [chkEOp] at hc
  split at hc
  · rename_i t l c he
    simp only [Bool.and_eq_true] at hc
    obtain ⟨⟨hl, hcc⟩, hel⟩ := hc
    have h1 := hev _ _ hl
    have h2 := hev _ _ hcc
    rw [hn] at h1 h2
    simp only [VR] at h1 h2
    split at hel
    · rename_i e hel'
      simp only [Bool.and_eq_true] at hel
      obtain ⟨hzo, hinf⟩ := hel
      obtain ⟨inf, zv, h3, h4, h5, h6⟩ := zeroOk_spec hzo E
      rw [h3] at hinf
      simp only [Bool.and_eq_true, beq_iff_eq, decide_eq_true_eq] at hinf
      obtain ⟨⟨⟨rfl, rfl⟩, hpos⟩, hzl⟩ := hinf
      have hzs : zv.cells.size = inf.size := by
        have := h6.length
        simp only [Array.length_toList] at this
        omega
      have hm : m ≤ 140737488355328 := by
        have : m.toNat ≤ m.toNat * inf.bytes := Nat.le_mul_of_pos_right _ hpos
        omega
      have hbytes : (inf.bytes : Int) * m ≤ 281474976710656 := by
        have e1 : ((m.toNat * inf.bytes : Nat) : Int) = m * (inf.bytes : Int) := by
          rw [Int.natCast_mul, Int.toNat_of_nonneg h0]
        rw [Int.mul_comm, ← e1]
        omega
      have hrun := run_make (P := P) E.w t e inf zv (elemT_spec hel') h3 h4 kk kk m m h0 (Int.le_refl _) hbytes (by omega)
      have hst := Env.st_mk1 hw (.cells (madeCells zv.cells (m.toNat * inf.size)) e) (i := i) (n := m.toNat + 1) (fun _ => False) (fun b q h => by rw [hi] at h; cases h)
      by_cases hz0 : inf.size = 0
      · refine ⟨_, hst, ⟨some E.w.heap.size, by simp [Env.mk1, upd], ?_, _, e, heap_new _ _, by simp [hz0], ?_, ?_, ?_⟩, .inl ⟨.slice (some ⟨E.w.heap.size, 0, none⟩) m.toNat m.toNat, ?_, ?_⟩⟩
        · intro d hd
          rw [(List.mem_replicate.1 hd).2]
          exact hzl
        · simp [hz0, AllOne]
        · have : zero = [] := List.eq_nil_of_length_eq_zero (by omega)
          subst this
          simp [hz0, VRs]
        · rintro k (hk | ⟨_, hk⟩)
          · have := hw.F _ _ hk; omega
          · exact hk
        · simp only [VR, RowOk]
          exact ⟨⟨_, _, _, rfl⟩, some E.w.heap.size, m.toNat, by simp [Env.mk1, upd], Nat.le_refl _, fun _ => ⟨m.toNat, by rw [Nat.zero_mul], Nat.le_refl _, by omega, by unfold maxLen; omega, _, e, heap_new _ _, by rw [size_madeCells, Nat.zero_add]⟩⟩
        · simp only [execOp, he, h1, h2, Sem.run_bind, hrun, Result.andThen_ok, Sem.run_pure]
          rfl
      · have hlist := madeCells_list zv.cells m.toNat (by omega)
        rw [hzs] at hlist
        have hfr : (List.replicate m.toNat zv.cells.toList).flatten.length = m.toNat * inf.size := by
          rw [← hlist, Array.length_toList, size_madeCells]
        refine ⟨_, hst, ⟨some E.w.heap.size, by simp [Env.mk1, upd], ?_, _, e, heap_new _ _, ?_, ?_, ?_, ?_⟩, .inl ⟨.slice (some ⟨E.w.heap.size, 0, none⟩) m.toNat m.toNat, ?_, ?_⟩⟩
        · intro d hd
          rw [(List.mem_replicate.1 hd).2]
          exact hzl
        · rw [size_madeCells, List.length_replicate]
          exact Nat.le_refl _
        · simp only [List.length_replicate]
          rw [hlist, List.take_of_length_le (by omega)]
          intro u hu
          obtain ⟨l', hl', hu⟩ := List.mem_flatten.1 hu
          rw [(List.mem_replicate.1 hl').2] at hu
          exact h5 u hu
        · simp only [List.length_replicate]
          rw [hlist, List.take_of_length_le (by omega)]
          refine VRs.mono hst.le ?_
          clear hst hrun hlist hfr hb hm hbytes h0 hn h1 h2
          induction m.toNat with
          | zero => simp [VRs]
          | succ k ih =>
            simp only [List.replicate_succ, List.flatten_cons]
            exact h6.append ih
        · rintro k (hk | ⟨_, hk⟩)
          · have := hw.F _ _ hk; omega
          · exact hk
        · simp only [VR, RowOk]
          exact ⟨⟨_, _, _, rfl⟩, some E.w.heap.size, m.toNat, by simp [Env.mk1, upd], Nat.le_refl _, fun _ => ⟨m.toNat, by rw [Nat.zero_mul], Nat.le_refl _, by omega, by unfold maxLen; omega, _, e, heap_new _ _, by rw [size_madeCells, Nat.zero_add]⟩⟩
        · simp only [execOp, he, h1, h2, Sem.run_bind, hrun, Result.andThen_ok, Sem.run_pure]
          rfl
    · cases hel
  · cases hc
end
end Go.Proofs.Fathom
