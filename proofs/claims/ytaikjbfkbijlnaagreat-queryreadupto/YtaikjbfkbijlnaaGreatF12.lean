/- A part of the proof of 'Rows.QueryReadUptoSaid': for every text and every seeds (of bulk at most 1048576 together) fathomlaw19.QueryRead returns true and its arguments read afterwards as before. -/
import Derived.Test.YtaikjbfkbijlnaaGreatF11
import Derived.Deep.LoopGhost
import Derived.Lib.SlBytesConst
set_option linter.unusedVariables false
set_option linter.unusedSimpArgs false
namespace Go.Proofs.Fathom
open Go

mutual
/-- All names in it lie below n. -/
def V.bd (n : Nat) : V → Bool
  | .agg cs => bds n cs
  | .tup cs => bds n cs
  | .sl t _ xs => (match t with | .tip i => decide (i < n) | _ => true) && bdss n xs
  | .row i _ _ _ _ => decide (i < n)
  | .rptr i _ _ _ _ => decide (i < n)
  | .cref cs => bds n cs
  | .ptr i _ => decide (i < n)
  | .fn _ cs => bds n cs
  | .map i => decide (i < n)
  | .iface _ x => V.bd n x
  | _ => true
def bds (n : Nat) : List V → Bool
  | [] => true
  | c :: cs => V.bd n c && bds n cs
def bdss (n : Nat) : List (List V) → Bool
  | [] => true
  | c :: cs => bds n c && bdss n cs
end
def Env.cut (E : Env) (n : Nat) : Env := { E with ι := fun i => if i < n then E.ι i else none }
theorem cut_ι {E : Env} {n i : Nat} (h : i < n) : (E.cut n).ι i = E.ι i := by simp [Env.cut, h]
mutual
theorem VR.cut {E : Env} {n : Nat} : (c : V) → (v : Value) → c.bd n = true → VR E c v → VR (E.cut n) c v
  | .int _ _, _, _, hv => by simpa only [VR] using hv
  | .bool _, _, _, hv => by simpa only [VR] using hv
  | .str _, _, _, hv => by simpa only [VR] using hv
  | .flt _, _, _, hv => by simpa only [VR] using hv
  | .cpx _ _, _, _, hv => by simpa only [VR] using hv
  | .agg cs, _, hb, hv => by
    simp only [VR] at hv ⊢
    simp only [V.bd] at hb
    obtain ⟨vs, e, h1, hs⟩ := hv
    exact ⟨vs, e, h1, VRs.cut cs _ hb hs⟩
  | .tup cs, _, hb, hv => by
    simp only [VR] at hv ⊢
    simp only [V.bd] at hb
    obtain ⟨vs, e, hs⟩ := hv
    exact ⟨vs, e, VRs.cut cs _ hb hs⟩
  | .sl t z xs, _, hb, hv => by
    simp only [VR] at hv ⊢
    simp only [V.bd, Bool.and_eq_true] at hb
    obtain ⟨a, len, cap, e, hl, hc, hx, ht⟩ := hv
    refine ⟨a, len, cap, e, hl, hc, fun hne => ?_, ?_⟩
    · obtain ⟨b, o, ha, he⟩ := hx hne
      exact ⟨b, o, ha, ElemsAt.cut b z xs o hb.2 he⟩
    · cases t with
      | no => trivial
      | full => exact ht
      | tip i =>
        obtain ⟨b, q, h1, h2⟩ := ht
        exact ⟨b, q, by rw [cut_ι (by simpa using hb.1)]; exact h1, h2⟩
  | .row i _ _ _ _, _, hb, hv => by
    simp only [VR] at hv ⊢
    obtain ⟨h0, b, q, h1, h2⟩ := hv
    exact ⟨h0, b, q, by rw [cut_ι (by simpa [V.bd] using hb)]; exact h1, h2⟩
  | .rptr i _ _ _ _, _, hb, hv => by
    simp only [VR] at hv ⊢
    obtain ⟨h0, b, q, h1, h2⟩ := hv
    exact ⟨h0, b, q, by rw [cut_ι (by simpa [V.bd] using hb)]; exact h1, h2⟩
  | .cref cs, _, hb, hv => by
    simp only [VR] at hv ⊢
    simp only [V.bd] at hb
    obtain ⟨b, o, e, hc⟩ := hv
    exact ⟨b, o, e, CellsAt.cut b cs o hb hc⟩
  | .ptr i off, _, hb, hv => by
    simp only [VR] at hv ⊢
    obtain ⟨b, hi, e⟩ := hv
    exact ⟨b, by rw [cut_ι (by simpa [V.bd] using hb)]; exact hi, e⟩
  | .nilp, _, _, hv => by simpa only [VR] using hv
  | .fn _ cs, _, hb, hv => by
    simp only [VR] at hv ⊢
    simp only [V.bd] at hb
    obtain ⟨vs, e, hs⟩ := hv
    exact ⟨vs, e, VRs.cut cs _ hb hs⟩
  | .nilf, _, _, hv => by simpa only [VR] using hv
  | .map i, _, hb, hv => by
    simp only [VR] at hv ⊢
    obtain ⟨b, hi, e⟩ := hv
    exact ⟨b, by rw [cut_ι (by simpa [V.bd] using hb)]; exact hi, e⟩
  | .nilm, _, _, hv => by simpa only [VR] using hv
  | .cmap ks m, _, _, hv => by
    simp only [VR] at hv ⊢
    exact hv
  | .iface _ x, _, hb, hv => by
    simp only [VR] at hv ⊢
    simp only [V.bd] at hb
    obtain ⟨u, e, hs⟩ := hv
    exact ⟨u, e, VR.cut x _ hb hs⟩
  | .nili, _, _, hv => by simpa only [VR] using hv
  | .junk, _, _, _ => by simp only [VR]
  termination_by structural c => c
theorem VRs.cut {E : Env} {n : Nat} : (cs : List V) → (vs : List Value) → bds n cs = true → VRs E cs vs → VRs (E.cut n) cs vs
  | [], _, _, hv => by simpa only [VRs] using hv
  | c :: cs, _, hb, hv => by
    simp only [VRs] at hv ⊢
    simp only [bds, Bool.and_eq_true] at hb
    obtain ⟨v, l, e, h1, h2⟩ := hv
    exact ⟨v, l, e, VR.cut c v hb.1 h1, VRs.cut cs l hb.2 h2⟩
  termination_by structural cs => cs
theorem CellsAt.cut {E : Env} {n : Nat} (b : Nat) : (cs : List V) → (o : Nat) → bds n cs = true → CellsAt E b o cs → CellsAt (E.cut n) b o cs
  | [], _, _, _ => by simp only [CellsAt]
  | c :: cs, o, hb, hv => by
    simp only [CellsAt] at hv ⊢
    simp only [bds, Bool.and_eq_true] at hb
    obtain ⟨⟨v, hc, hf, ho, hr⟩, h2⟩ := hv
    exact ⟨⟨v, hc, hf, ho, VR.cut c v hb.1 hr⟩, CellsAt.cut b cs _ hb.2 h2⟩
  termination_by structural cs => cs
theorem ElemsAt.cut {E : Env} {n : Nat} (b z : Nat) : (xs : List (List V)) → (o : Nat) → bdss n xs = true → ElemsAt E b o z xs → ElemsAt (E.cut n) b o z xs
  | [], _, _, _ => by simp only [ElemsAt]
  | c :: xs, o, hb, hv => by
    simp only [ElemsAt] at hv ⊢
    simp only [bdss, Bool.and_eq_true] at hb
    obtain ⟨h1, h2, h3⟩ := hv
    exact ⟨h1, CellsAt.cut b c o hb.1 h2, ElemsAt.cut b z xs _ hb.2 h3⟩
  termination_by structural xs => xs
end
def AObj.bd (n : Nat) : AObj → Bool
  | .cells cs => bds n cs
  | .row _ xs => bdss n xs
  | _ => true
theorem bds_append {n : Nat} : ∀ {a b : List V}, bds n (a ++ b) = (bds n a && bds n b)
  | [], b => by simp [bds]
  | c :: a, b => by simp [bds, bds_append, Bool.and_assoc]
theorem bds_flatten {n : Nat} : ∀ {xs : List (List V)}, bds n xs.flatten = bdss n xs
  | [] => rfl
  | c :: xs => by simp [bdss, bds_append, bds_flatten]
theorem ObjOk.cut {E : Env} {n i : Nat} {o : AObj} (hi : i < n) (hb : o.bd n = true) (h : ObjOk E i o) : ObjOk (E.cut n) i o := by
  cases o with
  | cells cs =>
    obtain ⟨b, cur, e, h1, h2, h3, h4, h5⟩ := h
    exact ⟨b, cur, e, by rw [cut_ι hi]; exact h1, h2, h3, VRs.cut cs _ hb h4, h5⟩
  | row z xs =>
    obtain ⟨b, h1, h2, h3⟩ := h
    refine ⟨b, by rw [cut_ι hi]; exact h1, h2, ?_⟩
    cases b with
    | none => exact h3
    | some b =>
      obtain ⟨cur, e, h4, h5, h6, h7, h8⟩ := h3
      exact ⟨cur, e, h4, h5, h6, VRs.cut _ _ (by rw [bds_flatten]; exact hb) h7, h8⟩
  | tip z m =>
    obtain ⟨b, h1, h2⟩ := h
    exact ⟨b, by rw [cut_ι hi]; exact h1, h2⟩
  | map ks m =>
    obtain ⟨b, ents, clock, h1, h2⟩ := h
    exact ⟨b, ents, clock, by rw [cut_ι hi]; exact h1, h2⟩
theorem SOk.cut {E : Env} {n : Nat} {ob : Obs} (hb : ∀ i o, ob i = some o → i < n ∧ o.bd n = true) (h : SOk E ob) : SOk (E.cut n) ob :=
  ⟨fun i o hi => (h.ok i o hi).cut (hb i o hi).1 (hb i o hi).2, fun i j o o' b p q hi hj h1 h2 => by
    rw [cut_ι (hb i o hi).1] at h1
    rw [cut_ι (hb j o' hj).1] at h2
    exact h.inj i j o o' b p q hi hj h1 h2⟩
theorem SOk.sub {E : Env} {ob ob' : Obs} (h : SOk E ob) (hs : ∀ i o, ob' i = some o → ob i = some o) : SOk E ob' :=
  ⟨fun i o hi => h.ok i o (hs i o hi), fun i j o o' b n m hi hj => h.inj i j o o' b n m (hs i o hi) (hs j o' hj)⟩

inductive Gop where
  | keep (l : List Nat)
  | keepo (l : List Nat)
  | mint (t : Nat)
  | mintr (t z : Nat)
  | mintc (t k z : Nat)
  | freezec (t k : Nat)
  | truncc (t k : Nat)
  | freezem (t k : Nat)
  | freezep (t : Nat)
  | freezer (t : Nat)
  | lower
inductive ACode where
  | skip
  | ret
  | exit (id : Nat)
  | reg (os : List AOper)
  | drw (os : List AOper)
  | drb (os : List AOper) (ord : List Nat)
  | drm (os : List AOper) (ord : List (Nat × Bool))
  | rgm (d0 d1 : Nat) (bs : List Int) (os : List AOper)
  | seq (a b : ACode)
  | cond (x : Opd) (a b : ACode)
  | block (id : Nat) (a : ACode)
  | loop (a : ACode)
  | gseq (g : Gop) (a : ACode)
  | seqg (a : ACode) (g : Gop)
inductive AExit where
  | normal
  | exit (id : Nat)
  | ret
def AExit.conv : AExit → Exit
  | .normal => .normal
  | .exit id => .exit id
  | .ret => .ret

def ofL : List (Nat × V) → Nat → V
  | [], _ => .junk
  | (k, v) :: r, t => if t = k then v else ofL r t
def ofO : List (Nat × Option AObj) → Obs
  | [], _ => none
  | (k, o) :: r, i => if i = k then o else ofO r i

def agh (g : Gop) (S : St) (K : St → Prop) : Prop := match g with
  | .keep l => K { S with sl := ofL (l.map fun t => (t, S.sl t)) }
  | .keepo l => K { S with ob := ofO (l.map fun i => (i, S.ob i)) }
  | .mint t => match S.sl t with
    | .sl .full z xs => K { S with sl := upd S.sl t (.sl (.tip S.nx) z xs), ob := upd S.ob S.nx (some (.tip z xs.length)), nx := S.nx + 1 }
    | _ => False
  | .mintr t z => match S.sl t with
    | .sl .full _ [] => K { S with sl := upd S.sl t (.row S.nx 0 z 0 0), ob := upd S.ob S.nx (some (.row z [])), nx := S.nx + 1 }
    | _ => False
  | .mintc t k z => match S.sl t with
    | .ptr i off => ∃ cs, S.ob i = some (.cells cs) ∧ (∃ z', cs[off + k]? = some (.sl .full z' [])) ∧ K { S with ob := upd (upd S.ob S.nx (some (.row z []))) i (some (.cells (cs.set (off + k) (.row S.nx 0 z 0 0)))), nx := S.nx + 1 }
    | _ => False
  | .freezec t k => match S.sl t with
    | .ptr i off => ∃ cs, S.ob i = some (.cells cs) ∧ ∃ j n z o l xs, cs[off + k]? = some (.row j n z o l) ∧ S.ob j = some (.row z xs) ∧ xs.length = n ∧ K { S with ob := upd (upd S.ob j none) i (some (.cells (cs.set (off + k) (.sl .no z ((xs.take (o + l)).drop o))))) }
    | _ => False
  | .freezem t k => match S.sl t with
    | .cref cs => ∃ i ks m, cs[k]? = some (.map i) ∧ S.ob i = some (.map ks m) ∧ K { S with sl := upd S.sl t (.cref (cs.set k (.cmap ks m))), ob := upd S.ob i none }
    | _ => False
  | .truncc t k => match S.sl t with
    | .ptr i off => ∃ cs, S.ob i = some (.cells cs) ∧ ∃ j n z l xs, cs[off + k]? = some (.row j n z 0 l) ∧ S.ob j = some (.row z xs) ∧ xs.length = n ∧ l ≤ n ∧
        K { S with ob := upd (upd (upd S.ob j (some (.tip z (n + 1)))) S.nx (some (.row z (xs.take l)))) i (some (.cells (cs.set (off + k) (.row S.nx l z 0 l)))), nx := S.nx + 1 }
    | _ => False
  | .freezep t => match S.sl t with
    | .ptr i 0 => ∃ cs, S.ob i = some (.cells cs) ∧ K { S with sl := upd S.sl t (.cref cs), ob := upd S.ob i none }
    | _ => False
  | .freezer t => match S.sl t with
    | .row i n z o l => ∃ xs, S.ob i = some (.row z xs) ∧ xs.length = n ∧ K { S with sl := upd S.sl t (.sl .no z ((xs.take (o + l)).drop o)), ob := upd S.ob i none }
    | _ => False
  | .lower => ∃ n, S.bs ≤ n ∧ n ≤ S.nx ∧ (∀ t, (S.sl t).bd n = true) ∧ (∀ i o, S.ob i = some o → i < n ∧ o.bd n = true) ∧ K { S with nx := n }

def awp (P : Program) : ACode → (AExit → St → Prop) → St → Prop
  | .skip, K, S => K .normal S
  | .ret, K, S => K .ret S
  | .exit id, K, S => K (.exit id) S
  | .reg os, K, S => aops P os S (K .normal)
  | .drw os, K, S => aops P os S (K .normal)
  | .drb os ord, K, S => aopsB P (pickA os ord) S (K .normal)
  | .drm os ord, K, S => aopsM P (pickM os ord) S (K .normal)
  | .rgm d0 d1 bs os, K, S => aops P os ((S.put (some d0) (.sl .no 1 (bs.map fun b => [.int .u8 b]))).put (some d1) (.sl .no 1 (bs.map fun b => [.int .u8 b]))) (K .normal)
  | .seq a b, K, S => awp P a (fun e S' => match e with | .normal => awp P b K S' | e => K e S') S
  | .cond x a b, K, S => match S.ev x with
    | .bool t => (t = true → awp P a K S) ∧ (t = false → awp P b K S)
    | _ => False
  | .block id a, K, S => awp P a (fun e S' => match e with | .exit j => if j = id then K .normal S' else K (.exit j) S' | e => K e S') S
  | .loop a, K, S => ∃ (I : Nat → St → Prop) (n : Nat), I n S ∧ ∀ n S', I n S' → awp P a (fun e S'' => match e with | .normal => ∃ n', n' < n ∧ I n' S'' | e => K e S'') S'
  | .gseq g a, K, S => agh g S (awp P a K)
  | .seqg a g, K, S => awp P a (fun e S' => match e with | .normal => agh g S' (K .normal) | e => K e S') S

/-- Bytes of a constant text: a list that is built, and turned into its own type. -/
def chkMk (P : Program) (nt : Nat) (ops : Array Oper) (o0 o1 : Oper) (d0 d1 : Nat) (bs : List Int) : Bool :=
  chkOper P nt ops o0 ⟨some d0, none, .q (.bsl 1 (bs.map fun b => .c (.int .u8 b)))⟩ && !bs.isEmpty && o1.dst == some d1 && decide (d1 < nt) && o1.guard.isNone &&
  (match o0.op, o1.op with
  | .buildSlice t _ _, .convert t1 t2 (.tmp d) => t1 == t && t2 == t && d == d0 && (match elemT P t with | some e => isIntT P e == some .u8 | none => false)
  | _, _ => false)
def chkCode (P : Program) (nt : Nat) : ACode → Code → Bool
  | .skip, c => (match c with | .skip => true | _ => false)
  | .ret, c => (match c with | .ret => true | _ => false)
  | .exit id, c => (match c with | .exit j => j == id | _ => false)
  | .reg os, c => (match c with | .region _ ops false => chkOpers P nt ops ops.toList os | _ => false)
  | .drw os, c => (match c with | .region _ ops true => chkOpers P nt ops ops.toList os && os.length == ops.size && lexOk ops os os.length 0 (Array.replicate ops.size false) | _ => false)
  | .drb os ord, c => (match c with | .region _ ops true => chkOpers P nt ops ops.toList os && os.length == ops.size && ord.length == ops.size && lexOkB ops os ord (Array.replicate ops.size false) | _ => false)
  | .drm os ord, c => (match c with | .region _ ops true => chkOpers P nt ops ops.toList os && os.length == ops.size && ord.length == ops.size && lexOkM ops os ord (Array.replicate ops.size false) | _ => false)
  | .rgm d0 d1 bs os, c => (match c with
    | .region _ ops false => (match ops.toList with
      | o0 :: o1 :: l => chkMk P nt ops o0 o1 d0 d1 bs && chkOpers P nt ops l os
      | _ => false)
    | _ => false)
  | .seq a b, c => (match c with | .seq x y => chkCode P nt a x && chkCode P nt b y | _ => false)
  | .cond x a b, c => (match c with | .cond p y z => chkOpd p x && chkCode P nt a y && chkCode P nt b z | _ => false)
  | .block id a, c => (match c with | .block j x => j == id && chkCode P nt a x | _ => false)
  | .loop a, c => (match c with | .loop x => chkCode P nt a x | _ => false)
  | .gseq _ a, c => chkCode P nt a c
  | .seqg a _, c => chkCode P nt a c

section
variable {P : Program} {G : Gh}

theorem Rel.slv {E : Env} {S : St} {a : Act} (h : Rel G E S a) {sl : Nat → V} (hs : ∀ t, VR E (sl t) (a.tmps.getD t undef)) : Rel G E { S with sl := sl } a :=
  ⟨h.wf, h.fr, hs, h.sz, h.df, h.ob, h.nx, h.nn, h.idm, h.mine, h.bs⟩
theorem ofL_map {S : Nat → V} : ∀ (l : List Nat) (t : Nat), ofL (l.map fun t => (t, S t)) t = S t ∨ ofL (l.map fun t => (t, S t)) t = .junk
  | [], t => .inr rfl
  | k :: l, t => by
    simp only [List.map_cons, ofL]
    by_cases h : t = k
    · rw [if_pos h, h]; exact .inl rfl
    · rw [if_neg h]; exact ofL_map l t
theorem ofO_map {S : Obs} : ∀ (l : List Nat) (t : Nat), ofO (l.map fun t => (t, S t)) t = S t ∨ ofO (l.map fun t => (t, S t)) t = none
  | [], t => .inr rfl
  | k :: l, t => by
    simp only [List.map_cons, ofO]
    by_cases h : t = k
    · rw [if_pos h, h]; exact .inl rfl
    · rw [if_neg h]; exact ofO_map l t
/-- A new name that stands for no memory. -/
theorem Env.st_virt {E : Env} (hw : E.wf) {i n : Nat} (hi : E.ι i = none) : E.st { E with ι := upd E.ι i (some (none, n)) } i :=
  ⟨⟨fun j g q hj => by
      have hne : j ≠ i := by intro e; subst e; rw [hi] at hj; cases hj
      exact ⟨g, q, by simp [upd, hne, hj], Nat.le_refl _, fun _ => rfl, fun h => h⟩, fun _ _ h => h, fun _ _ _ => rfl, fun _ h => ⟨h, rfl⟩, fun _ c _ h => ⟨c, h, rfl⟩⟩,
    ⟨hw.F, hw.M, hw.K⟩, fun j hj => by simp [upd, hj], fun _ _ _ => rfl, fun _ _ h => .inl h, fun _ h => .inl h, Nat.le_refl _, rfl, rfl, rfl, fun g q h => by simp [upd] at h⟩
/-- The cells of one object are frozen; the object is no more. -/
theorem Rel.freeze {E : Env} {S : St} {a : Act} (h : Rel G E S a) {i b n : Nat} {o : AObj} (ho : S.ob i = some o) (hi : E.ι i = some (some b, n)) (fz : Nat → Prop) :
    Rel G { E with F := fun g k => E.F g k ∨ (g = b ∧ fz k) } { S with ob := upd S.ob i none } a ∧ E.le { E with F := fun g k => E.F g k ∨ (g = b ∧ fz k) } := by
  have hle : E.le { E with F := fun g k => E.F g k ∨ (g = b ∧ fz k) } := ⟨fun j g q hj => ⟨g, q, hj, Nat.le_refl _, fun _ => rfl, fun h => h⟩, fun _ _ h => .inl h, fun _ _ _ => rfl, fun _ h => ⟨h, rfl⟩, fun _ c _ h => ⟨c, h, rfl⟩⟩
  have hlt := (h.ob.ok i o ho).lt hi
  have hm := h.mine i o b n ho hi
  refine ⟨⟨⟨fun g k hf => ?_, h.wf.M, h.wf.K⟩, ⟨h.fr.le.trans hle, h.fr.os, h.fr.tape, h.fr.output, h.fr.size, h.fr.block, fun g k hf => ?_, h.fr.M, h.fr.ι, h.fr.e0⟩,
    fun t => (h.slots t).mono hle, h.sz, h.df, ⟨fun j oj hj => ?_, fun j k oj ok b n m hj hk => ?_⟩, h.nx, h.nn, fun j oj hj => ?_, fun j oj b n hj hb => ?_, h.bs⟩, hle⟩
  · rcases hf with hf | ⟨rfl, _⟩
    · exact h.wf.F g k hf
    · exact hlt
  · rcases hf with hf | ⟨rfl, _⟩
    · exact h.fr.F g k hf
    · exact .inr hm
  · simp only at hj
    by_cases hji : j = i
    · subst hji; rw [upd_same] at hj; cases hj
    · rw [upd_ne _ _ hji] at hj
      refine (h.ob.ok j oj hj).keep hle rfl fun g q hg => ⟨rfl, fun k hf => ?_, fun hm => hm⟩
      rcases hf with hf | ⟨rfl, _⟩
      · exact hf
      · exact absurd (h.ob.inj j i oj o _ q n hj ho hg hi) hji
  · simp only at hj hk
    have h1 : S.ob j = some oj := by
      by_cases hji : j = i
      · subst hji; rw [upd_same] at hj; cases hj
      · rwa [upd_ne _ _ hji] at hj
    have h2 : S.ob k = some ok := by
      by_cases hji : k = i
      · subst hji; rw [upd_same] at hk; cases hk
      · rwa [upd_ne _ _ hji] at hk
    exact h.ob.inj j k oj ok b n m h1 h2
  · simp only at hj
    by_cases hji : j = i
    · subst hji; rw [upd_same] at hj; cases hj
    · rw [upd_ne _ _ hji] at hj; exact h.idm j oj hj
  · simp only at hj
    by_cases hji : j = i
    · subst hji; rw [upd_same] at hj; cases hj
    · rw [upd_ne _ _ hji] at hj; exact h.mine j oj b n hj hb
theorem Rel.freezeM {E : Env} {S : St} {a : Act} (h : Rel G E S a) {i : Nat} {ks : List ByteArray} {m : ByteArray → Int} (ho : S.ob i = some (.map ks m)) :
    ∃ E', Rel G E' { S with ob := upd S.ob i none } a ∧ E.le E' ∧ E'.w = E.w ∧ E'.F = E.F ∧ ∀ v, VR E (.map i) v → VR E' (.cmap ks m) v := by
  obtain ⟨b, ents, clock, hi, hh, hm, hnM⟩ := h.ob.ok _ _ ho
  have hle : E.le { E with M := fun g => E.M g ∨ g = b } := ⟨fun j g q hj => ⟨g, q, hj, Nat.le_refl _, fun _ => rfl, fun h => h⟩, fun _ _ h => h, fun _ _ _ => rfl, fun _ h => ⟨.inl h, rfl⟩, fun _ c _ h => ⟨c, h, rfl⟩⟩
  have hlt := heap_lt hh
  have hmi := h.mine i _ b 0 ho hi
  refine ⟨{ E with M := fun g => E.M g ∨ g = b }, ⟨⟨h.wf.F, fun g hg => ?_, fun g hg => ?_⟩, ⟨h.fr.le.trans hle, h.fr.os, h.fr.tape, h.fr.output, h.fr.size, h.fr.block, h.fr.F, fun g hg => ?_, h.fr.ι, h.fr.e0⟩,
    fun t => (h.slots t).mono hle, h.sz, h.df, ⟨fun j oj hj => ?_, fun j k oj ok b n m hj hk => ?_⟩, h.nx, h.nn, fun j oj hj => ?_, fun j oj b n hj hb => ?_, h.bs⟩, hle, rfl, rfl, fun v hv => ?_⟩
  · rcases hg with hg | rfl
    · exact h.wf.M g hg
    · exact hlt
  · rcases hg with hg | rfl
    · exact h.wf.K g hg
    · exact ⟨ents, clock, hh⟩
  · rcases hg with hg | rfl
    · exact h.fr.M g hg
    · exact .inr hmi
  · simp only at hj
    by_cases hji : j = i
    · subst hji; rw [upd_same] at hj; cases hj
    · rw [upd_ne _ _ hji] at hj
      refine (h.ob.ok j oj hj).keep hle rfl fun g q hg => ⟨rfl, fun k hf => hf, fun hM => ?_⟩
      rcases hM with hM | rfl
      · exact hM
      · exact absurd (h.ob.inj j i oj _ _ q 0 hj ho hg hi) hji
  · simp only at hj hk
    have h1 : S.ob j = some oj := by
      by_cases hji : j = i
      · subst hji; rw [upd_same] at hj; cases hj
      · rwa [upd_ne _ _ hji] at hj
    have h2 : S.ob k = some ok := by
      by_cases hji : k = i
      · subst hji; rw [upd_same] at hk; cases hk
      · rwa [upd_ne _ _ hji] at hk
    exact h.ob.inj j k oj ok b n m h1 h2
  · simp only at hj
    by_cases hji : j = i
    · subst hji; rw [upd_same] at hj; cases hj
    · rw [upd_ne _ _ hji] at hj; exact h.idm j oj hj
  · simp only at hj
    by_cases hji : j = i
    · subst hji; rw [upd_same] at hj; cases hj
    · rw [upd_ne _ _ hji] at hj; exact h.mine j oj b n hj hb
  · simp only [VR] at hv ⊢
    obtain ⟨b', hi', rfl⟩ := hv
    rw [hi] at hi'
    simp only [Option.some.injEq, Prod.mk.injEq, and_true] at hi'
    subst hi'
    exact ⟨b, ents, clock, rfl, .inr rfl, hh, hm⟩
theorem Env.st_refl {E : Env} (hw : E.wf) (i : Nat) : E.st E i :=
  ⟨Env.le.refl E, hw, fun _ _ => rfl, fun _ _ _ => rfl, fun _ _ h => .inl h, fun _ h => .inl h, Nat.le_refl _, rfl, rfl, rfl, fun b n h => .inr ⟨n, h⟩⟩
theorem VRs.set {E : Env} : ∀ {cs : List V} {vs : List Value} (j : Nat) {c : V}, VRs E cs vs → (∀ v, vs[j]? = some v → VR E c v) → VRs E (cs.set j c) vs
  | [], _, _, _, h, _ => h
  | c0 :: cs, vs, j, c, h, hc => by
    simp only [VRs] at h
    obtain ⟨v, l, rfl, h1, h2⟩ := h
    cases j with
    | zero =>
      simp only [List.set_cons_zero, VRs]
      exact ⟨v, l, rfl, hc v rfl, h2⟩
    | succ j =>
      simp only [List.set_cons_succ, VRs]
      exact ⟨v, l, rfl, h1, VRs.set j h2 fun u hu => hc u (by simpa using hu)⟩
theorem Rel.frz {E : Env} {S : St} {a : Act} (h : Rel G E S a) {i z : Nat} {xs : List (List V)} (hob : S.ob i = some (.row z xs)) :
    ∃ E', Rel G E' { S with ob := upd S.ob i none } a ∧ E.le E' ∧ E'.w = E.w ∧ ∀ n o l v, xs.length = n → VR E (.row i n z o l) v → VR E' (.sl .no z ((xs.take (o + l)).drop o)) v := by
  obtain ⟨b, hi, hz, hreal⟩ := h.ob.ok _ _ hob
  have hlive : ∀ n o l v, xs.length = n → VR E (.row i n z o l) v → _ := fun n o l v hn h1 => by
    simp only [VR] at h1
    exact h1.live h.ob ⟨xs, hob, hn⟩
  cases b with
  | none =>
    have hx : xs = [] := hreal
    subst hx
    have hsub : ∀ j o, upd S.ob i none j = some o → S.ob j = some o := fun j o hj => by
      by_cases hji : j = i
      · subst hji; rw [upd_same] at hj; cases hj
      · rwa [upd_ne _ _ hji] at hj
    refine ⟨E, ⟨h.wf, h.fr, h.slots, h.sz, h.df, h.ob.sub hsub, h.nx, h.nn, fun i o hi => h.idm i o (hsub i o hi), fun i o b n hi => h.mine i o b n (hsub i o hi), h.bs⟩, Env.le.refl E, rfl, fun n o l v hn hv => ?_⟩
    obtain ⟨b', hi', hlv⟩ := hlive n o l v hn hv
    rw [hi] at hi'
    simp only [Option.some.injEq, Prod.mk.injEq] at hi'
    obtain ⟨rfl, _⟩ := hi'
    obtain ⟨_, rfl, a', hv⟩ := hlv
    simp only [VR, TokOk]
    exact ⟨a', 0, 0, hv, by simp, Nat.le_refl _, fun hne => absurd (by simp) hne, trivial⟩
  | some b =>
    obtain ⟨cur, e, hh, hsz, hone, hr, hnf⟩ := hreal
    obtain ⟨hrel, hle⟩ := h.freeze hob hi (fun _ => True)
    refine ⟨_, hrel, hle, rfl, fun n o l v hn hv => ?_⟩
    obtain ⟨b', hi', hlv⟩ := hlive n o l v hn hv
    rw [hi] at hi'
    simp only [Option.some.injEq, Prod.mk.injEq] at hi'
    obtain ⟨rfl, _⟩ := hi'
    obtain ⟨cap, hv, hle1, hle2, _, cur2, e2, hh2, hcs⟩ := hlv
    simp only [VR, TokOk]
    have hlen : ((xs.take (o + l)).drop o).length = l := by
      rw [List.length_drop, List.length_take]
      omega
    have hall : ElemsAt { E with F := fun g k => E.F g k ∨ (g = b ∧ True) } b 0 z xs := by
      refine ElemsAt.of hz (hr.mono hle) hone fun j v hj => ⟨?_, .inr ⟨rfl, trivial⟩⟩
      rw [Nat.zero_add]
      show E.w.cell? _ = _
      rw [cell_of_row E.w b j cur e (0, 0) hh]
      rw [List.getElem?_take] at hj
      split at hj
      · simpa using hj
      · cases hj
    refine ⟨_, l, cap, hv, hlen.symm, hle1, fun _ => ⟨b, o * z, rfl, ?_⟩, trivial⟩
    have := (hall.take (o + l)).drop o (by rw [List.length_take]; omega)
    rwa [Nat.zero_add] at this
theorem take_flatten {z : Nat} : ∀ {xs : List (List V)}, (∀ c ∈ xs, c.length = z) → ∀ l, (xs.take l).flatten = xs.flatten.take (l * z)
  | [], _, l => by simp
  | c :: xs, h, 0 => by simp
  | c :: xs, h, l + 1 => by
    have hc : c.length = z := h c (by simp)
    rw [List.take_succ_cons, List.flatten_cons, List.flatten_cons, take_flatten (fun d hd => h d (by simp [hd])) l, List.take_append, Nat.succ_mul]
    rw [List.take_of_length_le (i := l * z + z) (by omega), hc, Nat.add_sub_cancel]
theorem Rel.trunc {E : Env} {S : St} {a : Act} (h : Rel G E S a) {j z l : Nat} {xs : List (List V)} (hob : S.ob j = some (.row z xs)) (hl : l ≤ xs.length) :
    ∃ E', Rel G E' { S with ob := upd (upd S.ob j (some (.tip z (xs.length + 1)))) S.nx (some (.row z (xs.take l))), nx := S.nx + 1 } a ∧ E.le E' ∧ E'.w = E.w ∧ ∀ v, VR E (.row j xs.length z 0 l) v → VR E' (.row S.nx l z 0 l) v := by
  obtain ⟨b, hi, hz, hreal⟩ := h.ob.ok _ _ hob
  have hnx : E.ι S.nx = none := h.nx _ (Nat.le_refl _)
  have hjn : j < S.nx := by
    rcases Nat.lt_or_ge j S.nx with h1 | h1
    · exact h1
    · rw [h.nx j h1] at hi; cases hi
  have hid := h.idm j _ hob
  have hnn := h.nn
  let ι' : Nat → Option (Option Nat × Nat) := upd (upd E.ι j (some (none, xs.length + 2))) S.nx (some (b, l + 1))
  have ιj : ι' j = some (none, xs.length + 2) := by simp only [ι']; rw [upd_ne _ _ (by omega), upd_same]
  have ιn : ι' S.nx = some (b, l + 1) := by simp only [ι']; rw [upd_same]
  have ιo : ∀ i, i ≠ j → i ≠ S.nx → ι' i = E.ι i := fun i h1 h2 => by simp only [ι']; rw [upd_ne _ _ h2, upd_ne _ _ h1]
  have hle : E.le { E with ι := ι' } := ⟨fun i b' n hi' => by
      by_cases h1 : i = S.nx
      · subst h1; rw [hnx] at hi'; cases hi'
      by_cases h2 : i = j
      · subst h2
        rw [hi] at hi'
        cases hi'
        exact ⟨none, xs.length + 2, ιj, by omega, fun e => by omega, fun e => by omega⟩
      · exact ⟨b', n, by show ι' i = _; rw [ιo i h2 h1]; exact hi', Nat.le_refl _, fun _ => rfl, fun e => e⟩,
    fun _ _ h => h, fun _ _ _ => rfl, fun _ h => ⟨h, rfl⟩, fun _ c _ h => ⟨c, h, rfl⟩⟩
  have obo : ∀ i o, upd (upd S.ob j (some (.tip z (xs.length + 1)))) S.nx (some (.row z (xs.take l))) i = some o → i ≠ S.nx → i ≠ j → S.ob i = some o := fun i o h1 h2 h3 => by
    rwa [upd_ne _ _ h2, upd_ne _ _ h3] at h1
  have blk : ∀ g n, ι' S.nx = some (some g, n) → E.ι j = some (some g, xs.length + 1) := fun g n h1 => by
    rw [ιn] at h1
    simp only [Option.some.injEq, Prod.mk.injEq] at h1
    rw [hi, h1.1]
  refine ⟨{ E with ι := ι' }, ⟨⟨h.wf.F, h.wf.M, h.wf.K⟩, ⟨h.fr.le.trans hle, h.fr.os, h.fr.tape, h.fr.output, h.fr.size, h.fr.block, h.fr.F, h.fr.M, fun i hin hd => ?_, h.fr.e0⟩,
    fun t => (h.slots t).mono hle, h.sz, h.df, ⟨fun i o ho => ?_, fun i k oi ok g n m ho hok h1 h2 => ?_⟩, fun i hin => ?_, by simp only; omega, fun i o ho => ?_, fun i o g n ho hg => ?_, by have := h.bs; simp only; omega⟩, hle, rfl, fun v hv => ?_⟩
  · show ι' i = _
    have h2 : i ≠ j := fun e => by
      subst e
      rcases hid with x | x
      · exact hd x
      · omega
    rw [ιo i h2 (by omega)]
    exact h.fr.ι i hin hd
  · simp only at ho
    by_cases h1 : i = S.nx
    · subst h1
      rw [upd_same] at ho
      cases ho
      have htl : (xs.take l).length = l := by rw [List.length_take]; omega
      refine ⟨b, by show ι' S.nx = _; rw [ιn, htl], fun c hc => hz c (List.mem_of_mem_take hc), ?_⟩
      cases b with
      | none =>
        have hx : xs = [] := hreal
        simp [hx]
      | some b =>
        obtain ⟨cur, e, k1, k2, k3, k4, k5⟩ := hreal
        have hmul : l * z ≤ xs.length * z := Nat.mul_le_mul_right _ hl
        have htt : cur.toList.take (l * z) = (cur.toList.take (xs.length * z)).take (l * z) := by rw [List.take_take, Nat.min_eq_left hmul]
        refine ⟨cur, e, k1, by rw [htl]; omega, ?_, ?_, k5⟩
        · rw [htl, htt]
          exact fun u hu => k3 u (List.mem_of_mem_take hu)
        · rw [htl, htt]
          have hfl : (xs.take l).flatten = xs.flatten.take (l * z) := take_flatten hz l
          rw [hfl]
          exact (k4.take (l * z)).mono hle
    · by_cases h2 : i = j
      · subst h2
        rw [upd_ne _ _ h1, upd_same] at ho
        cases ho
        exact ⟨none, by show ι' i = _; rw [ιj], trivial⟩
      · exact (h.ob.ok i o (obo i o ho h1 h2)).keep hle (ιo i h2 h1) fun g q hg => ⟨rfl, fun _ hf => hf, fun hm => hm⟩
  · simp only at ho hok h1 h2
    by_cases e1 : i = S.nx
    · by_cases e2 : k = S.nx
      · rw [e1, e2]
      · by_cases e3 : k = j
        · rw [e3, ιj] at h2; simp at h2
        · rw [e1] at h1
          rw [ιo k e3 e2] at h2
          exact absurd (h.ob.inj j k _ ok g _ m hob (obo k ok hok e2 e3) (blk g n h1) h2).symm e3
    · by_cases e1' : i = j
      · rw [e1', ιj] at h1; simp at h1
      · rw [ιo i e1' e1] at h1
        by_cases e2 : k = S.nx
        · rw [e2] at h2
          exact absurd (h.ob.inj j i _ oi g _ n hob (obo i oi ho e1 e1') (blk g m h2) h1).symm e1'
        · by_cases e3 : k = j
          · rw [e3, ιj] at h2; simp at h2
          · rw [ιo k e3 e2] at h2
            exact h.ob.inj i k oi ok g n m (obo i oi ho e1 e1') (obo k ok hok e2 e3) h1 h2
  · show ι' i = none
    simp only at hin
    rw [ιo i (by omega) (by omega)]
    exact h.nx i (by omega)
  · simp only at ho
    by_cases h1 : i = S.nx
    · right; omega
    · by_cases h2 : i = j
      · subst h2; exact hid
      · exact h.idm i o (obo i o ho h1 h2)
  · simp only at ho hg
    by_cases h1 : i = S.nx
    · subst h1
      exact h.mine j _ g _ hob (blk g n hg)
    · by_cases h2 : i = j
      · subst h2; rw [ιj] at hg; simp at hg
      · rw [ιo i h2 h1] at hg
        exact h.mine i o g n (obo i o ho h1 h2) hg
  · simp only [VR] at hv ⊢
    obtain ⟨b', hi', hlv⟩ := hv.live h.ob ⟨xs, hob, rfl⟩
    rw [hi] at hi'
    simp only [Option.some.injEq, Prod.mk.injEq, and_true] at hi'
    subst hi'
    refine ⟨hv.1, b, l, ιn, Nat.le_refl _, fun _ => ?_⟩
    cases b with
    | none =>
      obtain ⟨h1, h2, h3⟩ := hlv
      exact ⟨h2, h2, h3⟩
    | some b =>
      obtain ⟨cap, k1, k2, k3, k4, cur, e, k5, k6⟩ := hlv
      exact ⟨cap, k1, k2, by omega, k4, cur, e, k5, k6⟩
theorem agh_sound {g : Gop} {E : Env} {S : St} {a : Act} (h : Rel G E S a) {K : St → Prop} (hk : agh g S K) : ∃ S' E', K S' ∧ Rel G E' S' a ∧ S'.nt = S.nt ∧ E'.w = E.w := by
  cases g with
  | keep l =>
    refine ⟨_, E, hk, h.slv fun t => ?_, rfl, rfl⟩
    rcases ofL_map (S := S.sl) l t with h1 | h1
    · rw [h1]; exact h.slots t
    · rw [h1]; simp only [VR]
  | keepo l =>
    have hsub : ∀ i o, ofO (l.map fun i => (i, S.ob i)) i = some o → S.ob i = some o := fun i o hi => by
      rcases ofO_map (S := S.ob) l i with h1 | h1
      · rw [← h1]; exact hi
      · rw [h1] at hi; cases hi
    exact ⟨_, E, hk, ⟨h.wf, h.fr, h.slots, h.sz, h.df, h.ob.sub hsub, h.nx, h.nn, fun i o hi => h.idm i o (hsub i o hi), fun i o b n hi => h.mine i o b n (hsub i o hi), h.bs⟩, rfl, rfl⟩
  | mint t =>
    simp only [agh] at hk
    split at hk
    · rename_i z xs hsl
      have hnone := h.nx S.nx (Nat.le_refl _)
      have hst := Env.st_virt h.wf (n := xs.length + 1) hnone
      have hr := h.st hst (.inr ⟨hnone, Nat.le_refl _⟩) (o' := .tip z xs.length) ⟨none, by simp [upd], trivial⟩ (Nat.le_succ _) (Nat.lt_succ_self _)
      refine ⟨_, _, hk, hr.slv (sl := upd S.sl t (.sl (.tip S.nx) z xs)) fun t' => ?_, rfl, rfl⟩
      by_cases ht : t' = t
      · subst ht
        rw [upd_same]
        have := (h.slots t').mono hst.le
        rw [hsl] at this
        simp only [VR] at this ⊢
        obtain ⟨a', len, cap, h1, h2, h3, h4, h5⟩ := this
        exact ⟨a', len, cap, h1, h2, h3, h4, none, xs.length, by simp [upd], by omega, fun _ => h5⟩
      · rw [upd_ne _ _ ht]
        exact (h.slots t').mono hst.le
    · cases hk
  | mintr t z =>
    simp only [agh] at hk
    split at hk
    · rename_i z' hsl
      have hnone := h.nx S.nx (Nat.le_refl _)
      have hst := Env.st_virt h.wf (n := 1) hnone
      have hr := h.st hst (.inr ⟨hnone, Nat.le_refl _⟩) (o' := .row z []) ⟨none, by simp [upd], by simp, rfl⟩ (Nat.le_succ _) (Nat.lt_succ_self _)
      refine ⟨_, _, hk, hr.slv (sl := upd S.sl t (.row S.nx 0 z 0 0)) fun t' => ?_, rfl, rfl⟩
      by_cases ht : t' = t
      · subst ht
        rw [upd_same]
        have := (h.slots t').mono hst.le
        rw [hsl] at this
        simp only [VR, TokOk, RowOk] at this ⊢
        obtain ⟨a', len, cap, h1, h2, h3, h4, h5⟩ := this
        simp only [List.length_nil] at h2
        subst h2
        subst h5
        refine ⟨⟨a', 0, 0, h1⟩, none, 0, by simp [upd], Nat.le_refl _, fun _ => ?_⟩
        simp only
        exact ⟨trivial, trivial, a', h1⟩
      · rw [upd_ne _ _ ht]
        exact (h.slots t').mono hst.le
    · cases hk
  | mintc t k z =>
    simp only [agh] at hk
    split at hk
    · rename_i i off hsl
      obtain ⟨cs, hob, ⟨z', hc⟩, hk⟩ := hk
      have hnone := h.nx S.nx (Nat.le_refl _)
      have hin : i < S.nx := by
        rcases Nat.lt_or_ge i S.nx with h1 | h1
        · exact h1
        · obtain ⟨b, n, h2⟩ := (h.ob.ok i _ hob).some_ι
          rw [h.nx i h1] at h2
          cases h2
      have hst := Env.st_virt h.wf (n := 1) hnone
      have hr := h.st hst (.inr ⟨hnone, Nat.le_refl _⟩) (o' := .row z []) ⟨none, by simp [upd], by simp, rfl⟩ (Nat.le_succ _) (Nat.lt_succ_self _)
      have hob' : upd S.ob S.nx (some (AObj.row z [])) i = some (.cells cs) := by rw [upd_ne _ _ (by omega)]; exact hob
      obtain ⟨b, cur, e, h1, h2, h3, h4, h5⟩ := hr.ob.ok i _ hob'
      refine ⟨_, _, hk, hr.st (o' := .cells (cs.set (off + k) (.row S.nx 0 z 0 0))) (Env.st_refl hr.wf i) (.inl ⟨_, hob'⟩) ⟨b, cur, e, h1, h2, h3, VRs.set _ h4 fun v hv => ?_, h5⟩ (Nat.le_refl _) (Nat.lt_succ_of_lt hin), rfl, rfl⟩
      obtain ⟨v', hv', hr'⟩ := h4.get hc
      rw [hv] at hv'
      cases hv'
      simp only [VR, TokOk, RowOk] at hr' ⊢
      obtain ⟨a', len, cap, k1, k2, k3, k4, k5⟩ := hr'
      simp only [List.length_nil] at k2
      subst k2
      subst k5
      refine ⟨⟨a', 0, 0, k1⟩, none, 0, by simp [upd], Nat.le_refl _, fun _ => ?_⟩
      simp only
      exact ⟨trivial, trivial, a', k1⟩
    · cases hk
  | freezec t k =>
    simp only [agh] at hk
    split at hk
    · rename_i i off hsl
      obtain ⟨cs, hob, j, n, z, o, l, xs, hc, hj, hn, hk⟩ := hk
      have hij : i ≠ j := by intro e; subst e; rw [hob] at hj; cases hj
      obtain ⟨E', hr, hle, hw, hv⟩ := h.frz hj
      have hob' : upd S.ob j none i = some (.cells cs) := by rw [upd_ne _ _ hij]; exact hob
      obtain ⟨b, cur, e, h1, h2, h3, h4, h5⟩ := hr.ob.ok i _ hob'
      obtain ⟨b0, cur0, e0, g1, g2, g3, g4, g5⟩ := h.ob.ok i _ hob
      have hin : i < S.nx := by
        rcases Nat.lt_or_ge i S.nx with h1 | h1
        · exact h1
        · rw [h.nx i h1] at g1
          cases g1
      have hbb : b0 = b := by
        obtain ⟨b2, n2, k1, _, k3, _⟩ := hle.ι i _ _ g1
        rw [h1] at k1
        simp only [Option.some.injEq, Prod.mk.injEq] at k1
        have := k3 k1.2.symm
        rw [← k1.1] at this
        simpa using this.symm
      subst hbb
      rw [hw, g2] at h2
      simp only [Option.some.injEq, Obj.cells.injEq] at h2
      obtain ⟨rfl, rfl, _⟩ := h2
      refine ⟨_, _, hk, hr.st (o' := .cells (cs.set (off + k) (.sl .no z ((xs.take (o + l)).drop o)))) (Env.st_refl hr.wf i) (.inl ⟨_, hob'⟩) ⟨b0, cur0, e0, h1, by rw [hw]; exact g2, h3, VRs.set _ h4 fun v hv' => ?_, h5⟩ (Nat.le_refl _) hin, rfl, hw⟩
      obtain ⟨v', hv2, hr'⟩ := g4.get hc
      rw [hv'] at hv2
      cases hv2
      exact hv _ _ _ _ hn hr'
    · cases hk
  | freezem t k =>
    simp only [agh] at hk
    split at hk
    · rename_i cs hsl
      obtain ⟨i, ks, m, hc, hob, hk⟩ := hk
      obtain ⟨E', hr, hle, hw, hF, hv⟩ := h.freezeM hob
      refine ⟨_, E', hk, hr.slv (sl := upd S.sl t (.cref (cs.set k (.cmap ks m)))) fun t' => ?_, rfl, hw⟩
      by_cases ht : t' = t
      · subst ht
        rw [upd_same]
        have h0 := h.slots t'
        rw [hsl] at h0
        simp only [VR] at h0 ⊢
        obtain ⟨b, o, e1, e2⟩ := h0
        -- the cells, the map at its place
        have gen : ∀ (cs : List V) (o k : Nat), CellsAt E b o cs → cs[k]? = some (.map i) → CellsAt E' b o (cs.set k (.cmap ks m)) := by
          intro cs
          induction cs with
          | nil => intro o k h1 h2; simp at h2
          | cons d cs ih =>
            intro o k h1 h2
            simp only [CellsAt] at h1
            obtain ⟨⟨v, k1, k2, k3, k4⟩, k5⟩ := h1
            cases k with
            | zero =>
              simp only [List.getElem?_cons_zero, Option.some.injEq] at h2
              subst h2
              simp only [List.set_cons_zero, CellsAt]
              exact ⟨⟨v, by rw [hw]; exact k1, by rw [hF]; exact k2, k3, hv v k4⟩, CellsAt.mono' hle b cs _ k5⟩
            | succ k =>
              simp only [List.getElem?_cons_succ] at h2
              simp only [List.set_cons_succ, CellsAt]
              exact ⟨⟨v, by rw [hw]; exact k1, by rw [hF]; exact k2, k3, VR.mono hle k4⟩, ih _ k k5 h2⟩
        exact ⟨b, o, e1, gen cs o k e2 hc⟩
      · rw [upd_ne _ _ ht]
        exact (h.slots t').mono hle
    · cases hk
  | truncc t k =>
    simp only [agh] at hk
    split at hk
    · rename_i i off hsl
      obtain ⟨cs, hob, j, n, z, l, xs, hc, hj, hn, hl, hk⟩ := hk
      subst hn
      have hij : i ≠ j := by intro e; subst e; rw [hob] at hj; cases hj
      obtain ⟨b0, cur0, e0, g1, g2, g3, g4, g5⟩ := h.ob.ok i _ hob
      have hin : i < S.nx := by
        rcases Nat.lt_or_ge i S.nx with h1 | h1
        · exact h1
        · rw [h.nx i h1] at g1
          cases g1
      obtain ⟨E', hr, hle, hw, hv⟩ := h.trunc hj hl
      have hob' : upd (upd S.ob j (some (.tip z (xs.length + 1)))) S.nx (some (.row z (xs.take l))) i = some (.cells cs) := by rw [upd_ne _ _ (by omega), upd_ne _ _ hij]; exact hob
      obtain ⟨b, cur, e, h1, h2, h3, h4, h5⟩ := hr.ob.ok i _ hob'
      have hbb : b0 = b := by
        obtain ⟨b2, n2, k1, _, k3, _⟩ := hle.ι i _ _ g1
        rw [h1] at k1
        simp only [Option.some.injEq, Prod.mk.injEq] at k1
        have := k3 k1.2.symm
        rw [← k1.1] at this
        simpa using this.symm
      subst hbb
      rw [hw, g2] at h2
      simp only [Option.some.injEq, Obj.cells.injEq] at h2
      obtain ⟨rfl, rfl, _⟩ := h2
      refine ⟨_, _, hk, hr.st (o' := .cells (cs.set (off + k) (.row S.nx l z 0 l))) (Env.st_refl hr.wf i) (.inl ⟨_, hob'⟩) ⟨b0, cur0, e0, h1, by rw [hw]; exact g2, h3, VRs.set _ h4 fun v hv' => ?_, h5⟩ (Nat.le_refl _) (Nat.lt_succ_of_lt hin), rfl, hw⟩
      obtain ⟨v', hv2, hr'⟩ := g4.get hc
      rw [hv'] at hv2
      cases hv2
      exact hv _ hr'
    · cases hk
  | freezep t =>
    simp only [agh] at hk
    split at hk
    · rename_i i hsl
      obtain ⟨cs, hob, hk⟩ := hk
      obtain ⟨b, cur, e, hi, hh, hone, hr, hnf⟩ := h.ob.ok _ _ hob
      obtain ⟨hrel, hle⟩ := h.freeze hob hi (fun _ => True)
      refine ⟨_, _, hk, hrel.slv (sl := upd S.sl t (.cref cs)) fun t' => ?_, rfl, rfl⟩
      by_cases ht : t' = t
      · subst ht
        rw [upd_same]
        have h1 := h.slots t'
        rw [hsl] at h1
        simp only [VR] at h1 ⊢
        obtain ⟨b', hi', hv⟩ := h1
        rw [hi] at hi'
        cases hi'
        refine ⟨b, 0, hv, CellsAt_iff.2 ⟨cur.toList, hr.mono hle, hone, fun j v hj => ⟨?_, .inr ⟨rfl, trivial⟩⟩⟩⟩
        rw [Nat.zero_add]
        show E.w.cell? _ = _
        rw [cell_of_row E.w b j cur e (0, 0) hh]
        simpa using hj
      · rw [upd_ne _ _ ht]
        exact (h.slots t').mono hle
    · cases hk
  | freezer t =>
    simp only [agh] at hk
    split at hk
    · rename_i i n z o l hsl
      obtain ⟨xs, hob, hn, hk⟩ := hk
      have h1 := h.slots t
      rw [hsl] at h1
      simp only [VR] at h1
      obtain ⟨b, hi, hlv⟩ := h1.live h.ob ⟨xs, hob, hn⟩
      obtain ⟨b', hi', hz, hreal⟩ := h.ob.ok _ _ hob
      rw [hi] at hi'
      simp only [Option.some.injEq, Prod.mk.injEq, Nat.add_right_cancel_iff] at hi'
      obtain ⟨rfl, rfl⟩ := hi'
      cases b with
      | none =>
        obtain ⟨h0, rfl, a', hv⟩ := hlv
        have hx : xs = [] := hreal
        subst hx
        -- no memory: the object goes
        have hsub : ∀ j o, upd S.ob i none j = some o → S.ob j = some o := fun j o hj => by
          by_cases hji : j = i
          · subst hji; rw [upd_same] at hj; cases hj
          · rwa [upd_ne _ _ hji] at hj
        refine ⟨_, E, hk, ⟨h.wf, h.fr, fun t' => ?_, h.sz, h.df, h.ob.sub hsub, h.nx, h.nn, fun i o hi => h.idm i o (hsub i o hi), fun i o b n hi => h.mine i o b n (hsub i o hi), h.bs⟩, rfl, rfl⟩
        by_cases ht : t' = t
        · subst ht
          simp only [upd_same, VR, TokOk]
          exact ⟨a', 0, 0, hv, by simp, Nat.le_refl _, fun hne => absurd (by simp) hne, trivial⟩
        · simp only [upd_ne _ _ ht]
          exact h.slots t'
      | some b =>
        obtain ⟨cap, hv, hle1, hle2, _, cur2, e2, hh2, hcs⟩ := hlv
        obtain ⟨cur, e, hh, hsz, hone, hr, hnf⟩ := hreal
        obtain ⟨hrel, hle⟩ := h.freeze hob hi (fun _ => True)
        refine ⟨_, _, hk, hrel.slv (sl := upd S.sl t (.sl .no z ((xs.take (o + l)).drop o))) fun t' => ?_, rfl, rfl⟩
        by_cases ht : t' = t
        · subst ht
          rw [upd_same]
          simp only [VR, TokOk]
          have hlen : ((xs.take (o + l)).drop o).length = l := by
            rw [List.length_drop, List.length_take]
            omega
          have hall : ElemsAt { E with F := fun g k => E.F g k ∨ (g = b ∧ True) } b 0 z xs := by
            refine ElemsAt.of hz (hr.mono hle) hone fun j v hj => ⟨?_, .inr ⟨rfl, trivial⟩⟩
            rw [Nat.zero_add]
            show E.w.cell? _ = _
            rw [cell_of_row E.w b j cur e (0, 0) hh]
            rw [List.getElem?_take] at hj
            split at hj
            · simpa using hj
            · cases hj
          refine ⟨_, l, cap, hv, hlen.symm, hle1, fun _ => ⟨b, o * z, rfl, ?_⟩, trivial⟩
          have := (hall.take (o + l)).drop o (by rw [List.length_take]; omega)
          rwa [Nat.zero_add] at this
        · rw [upd_ne _ _ ht]
          exact (h.slots t').mono hle
    · cases hk
  | lower =>
    simp only [agh] at hk
    obtain ⟨n, hbs, h1, h2, h3, hk⟩ := hk
    have hn : G.n0 ≤ n := Nat.le_trans h.bs hbs
    have hcm : ∀ b m i, (E.cut n).ι i = some (b, m) → E.ι i = some (b, m) := fun b m i hi => by
      simp only [Env.cut] at hi
      split at hi
      · exact hi
      · cases hi
    refine ⟨_, E.cut n, hk, ⟨⟨h.wf.F, h.wf.M, h.wf.K⟩, ⟨⟨fun i b m hi => ?_, h.fr.le.F, h.fr.le.cell, h.fr.le.M, h.fr.le.shape⟩, h.fr.os, h.fr.tape, h.fr.output, h.fr.size, h.fr.block, h.fr.F, h.fr.M, fun j hj hd => ?_, h.fr.e0⟩,
      fun t => VR.cut _ _ (h2 t) (h.slots t), h.sz, h.df, h.ob.cut h3, fun i hi => ?_, hn, h.idm, fun i o b m hi hb => h.mine i o b m hi (hcm _ _ _ hb), h.bs⟩, rfl, rfl⟩
    · have hin : i < G.n0 := by
        rcases Nat.lt_or_ge i G.n0 with x | x
        · exact x
        · rw [h.fr.e0 i x] at hi; cases hi
      rw [cut_ι (by omega)]
      exact h.fr.le.ι i b m hi
    · rw [cut_ι (by omega)]
      exact h.fr.ι j hj hd
    · simp only [Env.cut]
      rw [if_neg (by simp only at hi; omega)]

theorem drew_q (E : Env) : E.q { E with w := E.w.drew } :=
  ⟨rfl, fun _ _ h => h, fun _ _ h => .inl h, fun _ h => h, fun _ h => .inl h, fun _ h => .inl h, Nat.le_refl _, fun _ _ => rfl, rfl, rfl, rfl⟩

theorem CellsAt.grownm {E : Env} (hw : E.wf) {cs : List V} {vs : List Value} (h : VRs E cs vs) (h1 : AllOne vs) (e : TypeId) (fz : Nat × Nat) :
    CellsAt (E.grow (.cells vs.toArray e fz) (fun _ => True)) E.w.heap.size 0 cs := by
  refine CellsAt_iff.2 ⟨vs, h.mono ((Env.q_grow E _ _).le hw), h1, fun j v hv => ⟨?_, .inr ⟨rfl, trivial⟩⟩⟩
  show (E.w.alloc (.cells vs.toArray e fz)).cell? _ = _
  rw [cell_of_row (E.w.alloc (.cells vs.toArray e fz)) E.w.heap.size (0 + j) vs.toArray e fz (heap_alloc_new E.w _)]
  simpa using hv
theorem bsl_run {E : Env} {ρ : Opd → V} {ev : Operand → Value} {o : Oper} {z : Nat} {parts : List Opd} (hev : EvOk E ρ ev) (hc : chkOp P o.op (.bsl z parts) = true) (h1 : ∀ p ∈ parts, (ρ p).cells.length = z ∧ (ρ p).okc = true) :
    ∃ t n ps e vs, o.op = .buildSlice t n ps ∧ elemT P t = some e ∧ AllOne vs ∧ VRs E (parts.map fun p => (ρ p).cells).flatten vs ∧
      (execOp ev o).run P E.w = .ok (.value (.slice (some ⟨E.w.heap.size, 0, none⟩) parts.length parts.length)) (E.w.alloc (.cells vs.toArray e)) := by
  simp only [chkOp] at hc
  split at hc
  · rename_i t n ps he
    simp only [Bool.and_eq_true, beq_iff_eq, decide_eq_true_eq] at hc
    obtain ⟨⟨⟨rfl, hp⟩, hbig⟩, hel⟩ := hc
    split at hel
    · rename_i e hel'
      have hu := elemT_spec hel'
      simp only [Bool.and_eq_true, beq_iff_eq] at hel
      obtain ⟨hsz, hzero⟩ := hel
      split at hzero
      · rename_i zv hzv
        obtain ⟨i, hi, hzz⟩ := Option.bind_eq_some_iff.1 hzv
        have hzs : zv.cells.size = z := by simpa using hzero
        have hbig' : ¬ parts.length * z > 2 ^ 24 := by omega
        let zero : Array Value := if parts.length * z = 0 then #[] else zv.cells
        obtain ⟨out, vs, h2, h3, h4, h5⟩ := fill_elems z ps.toList parts 0 ((Array.range (parts.length * z)).map (zero[· % zero.size]!)) hev hp h1 (by simp)
        simp only [Nat.zero_mul, List.take_zero, List.nil_append] at h3
        have hout : out = vs.toArray := by apply Array.ext'; simpa using h3
        subst hout
        refine ⟨t, _, ps, e, vs, he, hel', h4, h5, ?_⟩
        have hps : (ps.map fun (p : Nat × Operand) => (p.1, ev p.2)).toList = ps.toList.map fun p => (p.1, ev p.2) := by simp
        by_cases h0 : parts.length * z = 0
        · have hz0 : zero = #[] := by simp only [zero]; rw [if_pos h0]
          rw [hz0] at h2
          rw [h0] at h2
          simp [execOp, he, Instr.buildSlice, run_underlying hu, sizeT_run hsz, hbig', h0, newRow, Env.grow]
          simp at h2
          rw [h2]
          simp
        · have hz0 : zero = zv.cells := by simp only [zero]; rw [if_neg h0]
          rw [hz0] at h2
          have h0' : ¬ (parts.length = 0 ∨ z = 0) := by
            intro h
            apply h0
            rcases h with h | h <;> simp [h]
          simp only [execOp, he, Instr.buildSlice, Sem.run_bind, run_underlying hu, sizeT_run hsz, Result.andThen_ok, if_neg hbig', if_neg h0, zeroValue, typeInfo, run_program, hi, Sem.run_pure, hzz]
          simp only [hps, h2]
          simp [newRow, Env.grow]
      · cases hzero
    · cases hel
  · cases hc
theorem mk_sound {ops : Array Oper} {o0 o1 : Oper} {d0 d1 : Nat} {bs : List Int} {Q : Exit → Act → World → Prop} (g0 : ops[0]? = some o0) (g1 : ops[1]? = some o1) {E : Env} {S : St} {a : Act} (h : Rel G E S a) (hc : chkMk P S.nt ops o0 o1 d0 d1 bs = true)
    {K2 : Act → World → Prop}
    (hK : ∀ E' a', Rel G E' ((S.put (some d0) (.sl .no 1 (bs.map fun b => [.int .u8 b]))).put (some d1) (.sl .no 1 (bs.map fun b => [.int .u8 b]))) a' → K2 a' E'.w) :
    wpOp P ops Q 0 (wpOp P ops Q 1 K2) a E.w := by
  unfold chkMk at hc
  simp only [Bool.and_eq_true, beq_iff_eq, decide_eq_true_eq] at hc
  obtain ⟨⟨⟨⟨⟨c0, hne⟩, c1⟩, c2⟩, c3⟩, c4⟩ := hc
  simp only [chkOper, Bool.and_eq_true, beq_iff_eq, decide_eq_true_eq, chkAX] at c0
  obtain ⟨⟨⟨e1, e2⟩, e3⟩, e4⟩ := c0
  have hmap : ((bs.map fun b => Opd.c (.int .u8 b)).map fun p => (S.ev p).cells) = bs.map fun b => [V.int .u8 b] := by
    rw [List.map_map]; rfl
  obtain ⟨t, n, ps, e, vs, ho, hel, hone, hvs, hrun⟩ := bsl_run (P := P) (E := E) (ρ := S.ev) (ev := a.eval) h.ev e4 (fun p hp => by
    obtain ⟨b, _, rfl⟩ := List.mem_map.1 hp
    exact ⟨rfl, rfl⟩)
  rw [hmap] at hvs
  have hlen : (bs.map fun b => Opd.c (.int .u8 b)).length = bs.length := List.length_map _
  rw [hlen] at hrun
  rw [ho] at c4
  have hg0 : o0.guard = none := by
    unfold chkGuard at e3
    split at e3
    · assumption
    · rename_i hx; cases hx
    · cases e3
  split at c4
  · rename_i t' _ _ t1 t2 d hb1 hb2
    simp only [Op.buildSlice.injEq] at hb1
    obtain ⟨rfl, _, _⟩ := hb1
    simp only [Bool.and_eq_true, beq_iff_eq] at c4
    obtain ⟨⟨⟨rfl, rfl⟩, rfl⟩, hel8⟩ := c4
    rw [hel] at hel8
    have h8 : isIntT P e = some .u8 := by simpa using hel8
    have h8' : P.underlying e = some (.int .u8) := by
      unfold isIntT at h8
      split at h8
      · rename_i hd; cases h8; exact hd
      · cases h8
    have hw0 : ∀ K a w, o0.wp P a w K Q → wpOp P ops Q 0 K a w := fun K a w hh => by
      unfold wpOp
      rw [g0]
      simp only
      rw [if_pos (by simp [Region.wanted, hg0])]
      exact .inl hh
    have hw1 : ∀ K a w, o1.wp P a w K Q → wpOp P ops Q 1 K a w := fun K a w hh => by
      unfold wpOp
      rw [g1]
      simp only
      rw [if_pos (by simp [Region.wanted, Option.isNone_iff_eq_none.1 c3])]
      exact .inl hh
    refine hw0 _ _ _ (oper_wp_value hrun (hw1 _ _ _ ?_))
    have hr1 : (execOp (a.put o0.dst (.slice (some ⟨E.w.heap.size, 0, none⟩) bs.length bs.length)).eval o1).run P (E.w.alloc (.cells vs.toArray e)) = .ok (.value (.slice (some ⟨E.w.heap.size, 0, none⟩) bs.length bs.length)) (E.w.alloc (.cells vs.toArray e (vs.toArray.size, vs.toArray.size + 1))) := by
      have hev : (a.put o0.dst (.slice (some ⟨E.w.heap.size, 0, none⟩) bs.length bs.length)).eval (.tmp d) = .slice (some ⟨E.w.heap.size, 0, none⟩) bs.length bs.length := by
        rw [e1]
        have := h.sz
        simp [Act.put, Act.eval, this, e2]
      have := Go.Lib.run_convert_bytes_const (P := P) E.w t2 e vs.toArray bs.length bs.length (elemT_spec hel) h8'
      simp only [execOp, hb2, hev, Sem.run_bind, this, Result.andThen_ok, Sem.run_pure]
    refine oper_wp_value hr1 ?_
    have hq := Env.q_grow E (.cells vs.toArray e (vs.toArray.size, vs.toArray.size + 1)) (fun _ => True)
    have hvr : VR (E.grow (.cells vs.toArray e (vs.toArray.size, vs.toArray.size + 1)) (fun _ => True)) (.sl .no 1 (bs.map fun b => [.int .u8 b])) (.slice (some ⟨E.w.heap.size, 0, none⟩) bs.length bs.length) := by
      simp only [VR]
      refine ⟨_, _, _, rfl, by simp, Nat.le_refl _, fun _ => ⟨_, _, rfl, ElemsAt_iff.2 ⟨fun c hc => ?_, CellsAt.grownm h.wf hvs hone e _⟩⟩, trivial⟩
      obtain ⟨b, _, rfl⟩ := List.mem_map.1 hc
      rfl
    have hr2 := ((h.q hq).put (d := some d) (fun k hk => by cases hk; exact e2) hvr).put (d := some d1) (fun k hk => by cases hk; exact c2) hvr
    have := hK _ _ hr2
    rw [e1, c1]
    exact this
  · cases c4
theorem awp_sound (hm : P.follows .mixedOrders = true) {nt : Nat} : ∀ (ac : ACode) (c : Code), chkCode P nt ac c = true → ∀ {E : Env} {S : St} {a : Act}, Rel G E S a → S.nt = nt → ∀ {K : AExit → St → Prop}, awp P ac K S →
    ∀ (Q : Exit → Act → World → Prop), (∀ e S' E' a', K e S' → Rel G E' S' a' → S'.nt = nt → Q e.conv a' E'.w) → c.wp P Q a E.w
  | .skip, c, hc, E, S, a, h, hnt, K, hk, Q, hQ => by
    simp only [chkCode] at hc
    split at hc
    · exact wp_skip (hQ .normal S E a hk h hnt)
    · cases hc
  | .ret, c, hc, E, S, a, h, hnt, K, hk, Q, hQ => by
    simp only [chkCode] at hc
    split at hc
    · exact wp_ret (hQ .ret S E a hk h hnt)
    · cases hc
  | .exit id, c, hc, E, S, a, h, hnt, K, hk, Q, hQ => by
    simp only [chkCode] at hc
    split at hc
    · rename_i j
      have : j = id := by simpa using hc
      subst this
      exact wp_exit (hQ (.exit j) S E a hk h hnt)
    · cases hc
  | .reg os, c, hc, E, S, a, h, hnt, K, hk, Q, hQ => by
    simp only [chkCode] at hc
    split at hc
    · rename_i id ops
      refine wp_region ?_
      have := aops_sound (Q := Q) (ops := ops) ops.toList os 0 (fun j => by simp) h (by rw [hnt]; exact hc) hk fun S' E' a' h1 h2 h3 => hQ .normal S' E' a' h1 h2 (h3.trans hnt)
      rw [Array.length_toList, ← List.range_eq_range'] at this
      exact this
    · cases hc
  | .drw os, c, hc, E, S, a, h, hnt, K, hk, Q, hQ => by
    simp only [chkCode] at hc
    split at hc
    · rename_i id ops
      simp only [Bool.and_eq_true, beq_iff_eq] at hc
      obtain ⟨⟨h1, h2⟩, h3⟩ := hc
      refine wp_region_any hm ?_
      have hA := anyA_lex (P := P) (K := K .normal) h2 os 0 (Array.replicate ops.size false) S (fun j => by simp) (fun j o _ hl => by
        simp [Array.getD_eq_getD_getElem?, Array.getElem?_replicate] at hl
        split at hl <;> simp at hl) h3 hk
      rw [h2] at hA
      exact any_sound (Q := Q) h1 ops.size _ (h.q (drew_q E)) hnt hA fun S' E' a' k1 k2 k3 => hQ .normal S' E' a' k1 k2 k3
    · cases hc
  | .drb os ord, c, hc, E, S, a, h, hnt, K, hk, Q, hQ => by
    simp only [chkCode] at hc
    split at hc
    · rename_i id ops
      simp only [Bool.and_eq_true, beq_iff_eq] at hc
      obtain ⟨⟨⟨h1, h2⟩, h4⟩, h3⟩ := hc
      refine wp_region_any hm ?_
      have hA := anyB_lex (P := P) (K := K .normal) h2 ord (Array.replicate ops.size false) S (fun j o _ hl => by
        simp [Array.getD_eq_getD_getElem?, Array.getElem?_replicate] at hl
        split at hl <;> simp at hl) h3 hk
      rw [h4] at hA
      exact any_sound (Q := Q) h1 ops.size _ (h.q (drew_q E)) hnt hA fun S' E' a' k1 k2 k3 => hQ .normal S' E' a' k1 k2 k3
    · cases hc
  | .drm os ord, c, hc, E, S, a, h, hnt, K, hk, Q, hQ => by
    simp only [chkCode] at hc
    split at hc
    · rename_i id ops
      simp only [Bool.and_eq_true, beq_iff_eq] at hc
      obtain ⟨⟨⟨h1, h2⟩, h4⟩, h3⟩ := hc
      refine wp_region_any hm ?_
      have hA := anyM_lex (P := P) (K := K .normal) h2 ord (Array.replicate ops.size false) S (fun j o _ hl => by
        simp [Array.getD_eq_getD_getElem?, Array.getElem?_replicate] at hl
        split at hl <;> simp at hl) h3 hk
      rw [h4] at hA
      exact any_sound (Q := Q) h1 ops.size _ (h.q (drew_q E)) hnt hA fun S' E' a' k1 k2 k3 => hQ .normal S' E' a' k1 k2 k3
    · cases hc
  | .rgm d0 d1 bs os, c, hc, E, S, a, h, hnt, K, hk, Q, hQ => by
    simp only [chkCode] at hc
    split at hc
    · rename_i id ops
      split at hc
      · rename_i o0 o1 l hops
        simp only [Bool.and_eq_true] at hc
        refine wp_region ?_
        have hlen : ops.size = l.length + 2 := by rw [← Array.length_toList, hops]; rfl
        rw [List.range_eq_range', hlen, List.range'_succ, List.range'_succ]
        have g0 : ops[0]? = some o0 := by rw [← Array.getElem?_toList, hops]; rfl
        have g1 : ops[1]? = some o1 := by rw [← Array.getElem?_toList, hops]; rfl
        rw [wpOps_cons, show wpOps P ops Q ((0 + 1) :: List.range' (0 + 1 + 1) l.length) = wpOp P ops Q 1 (wpOps P ops Q (List.range' 2 l.length)) from by funext a w; rw [wpOps_cons]]
        refine mk_sound g0 g1 h (by rw [hnt]; exact hc.1) fun E' a' hr => ?_
        refine aops_sound (Q := Q) (ops := ops) l os 2 (fun j => ?_) hr (by rw [show (St.put _ _ _).nt = S.nt from rfl, hnt]; exact hc.2) hk fun S' E' a' h1 h2 h3 => hQ .normal S' E' a' h1 h2 (h3.trans hnt)
        rw [← Array.getElem?_toList, hops, Nat.add_comm]
        rfl
      · cases hc
    · cases hc
  | .seq a1 b1, c, hc, E, S, a, h, hnt, K, hk, Q, hQ => by
    simp only [chkCode] at hc
    split at hc
    · rename_i x y
      simp only [Bool.and_eq_true] at hc
      refine wp_seq (awp_sound hm a1 x hc.1 h hnt hk _ fun e S' E' a' h1 h2 h3 => ?_)
      cases e with
      | normal => exact awp_sound hm b1 y hc.2 h2 h3 h1 Q hQ
      | exit id => exact hQ _ _ _ _ h1 h2 h3
      | ret => exact hQ _ _ _ _ h1 h2 h3
    · cases hc
  | .cond x a1 b1, c, hc, E, S, a, h, hnt, K, hk, Q, hQ => by
    simp only [chkCode] at hc
    split at hc
    · rename_i p y z
      simp only [Bool.and_eq_true] at hc
      have hx := h.ev _ _ hc.1.1
      simp only [awp] at hk
      split at hk
      · rename_i t ht
        rw [ht] at hx
        simp only [VR] at hx
        refine wp_cond_split hx (fun ht => ?_) (fun ht => ?_)
        · exact awp_sound hm a1 y hc.1.2 h hnt (hk.1 ht) Q hQ
        · exact awp_sound hm b1 z hc.2 h hnt (hk.2 ht) Q hQ
      · cases hk
    · cases hc
  | .block id a1, c, hc, E, S, a, h, hnt, K, hk, Q, hQ => by
    simp only [chkCode] at hc
    split at hc
    · rename_i j x
      simp only [Bool.and_eq_true, beq_iff_eq] at hc
      obtain ⟨rfl, hc⟩ := hc
      refine wp_block (awp_sound hm a1 x hc h hnt hk _ fun e S' E' a' h1 h2 h3 => ?_)
      cases e with
      | normal => exact hQ _ _ _ _ h1 h2 h3
      | ret => exact hQ _ _ _ _ h1 h2 h3
      | exit i =>
        simp only [AExit.conv, Exit.inBlock]
        by_cases hij : i = j
        · rw [if_pos hij]
          simp only [hij, if_true] at h1
          exact hQ .normal _ _ _ h1 h2 h3
        · rw [if_neg hij]
          simp only [hij, if_false] at h1
          exact hQ (.exit i) _ _ _ h1 h2 h3
    · cases hc
  | .loop a1, c, hc, E, S, a, h, hnt, K, hk, Q, hQ => by
    simp only [chkCode] at hc
    split at hc
    · rename_i x
      simp only [awp] at hk
      obtain ⟨I, n, h0, hround⟩ := hk
      refine wp_loop_ghost (fun n a w => ∃ S E, I n S ∧ Rel G E S a ∧ S.nt = nt ∧ E.w = w) n ⟨S, E, h0, h, hnt, rfl⟩ ?_
      rintro n a' w' ⟨S', E', hI, hr, hnt', rfl⟩
      refine awp_sound hm a1 x hc hr hnt' (hround n S' hI) _ fun e S'' E'' a'' h1 h2 h3 => ?_
      cases e with
      | normal =>
        obtain ⟨n', hlt, hI'⟩ := h1
        exact ⟨n', hlt, S'', E'', hI', h2, h3, rfl⟩
      | exit id => exact hQ _ _ _ _ h1 h2 h3
      | ret => exact hQ _ _ _ _ h1 h2 h3
    · cases hc
  | .gseq g a1, c, hc, E, S, a, h, hnt, K, hk, Q, hQ => by
    simp only [chkCode] at hc
    simp only [awp] at hk
    obtain ⟨S', E', h1, h2, h3, h4⟩ := agh_sound h hk
    rw [← h4]
    exact awp_sound hm a1 c hc h2 (h3.trans hnt) h1 Q hQ
  | .seqg a1 g, c, hc, E, S, a, h, hnt, K, hk, Q, hQ => by
    simp only [chkCode] at hc
    simp only [awp] at hk
    refine awp_sound hm a1 c hc h hnt hk Q fun e S' E' a' h1 h2 h3 => ?_
    cases e with
    | normal =>
      obtain ⟨S'', E'', k1, k2, k3, k4⟩ := agh_sound h2 h1
      have := hQ .normal S'' E'' a' k1 k2 (k3.trans h3)
      rw [k4] at this
      exact this
    | exit id => exact hQ _ _ _ _ h1 h2 h3
    | ret => exact hQ _ _ _ _ h1 h2 h3
end
end Go.Proofs.Fathom
