/- A part of the proof of 'Rows.QueryReadUptoSaid': for every text and every seeds (of bulk at most 1048576 together) fathomlaw19.QueryRead returns true and its arguments read afterwards as before. -/
import Derived.Test.YtaikjbfkbijlnaaGreatF33
set_option linter.unusedVariables false
set_option linter.unusedSimpArgs false
namespace Go.Proofs.Fathom
open Go Go.Proofs
/-! ### The parser as functions, with fuel -/
def bx (l : List UInt8) : ByteArray := ⟨l.toArray⟩
def tkCol : ByteArray := ⟨#[58]⟩
def tkEq : ByteArray := ⟨#[61, 61]⟩
def tkLt : ByteArray := ⟨#[60]⟩
def tkAdd : ByteArray := ⟨#[43]⟩
def tkSub : ByteArray := ⟨#[45]⟩
def tkMul : ByteArray := ⟨#[42]⟩
def tkQuo : ByteArray := ⟨#[47]⟩
def tkOp : ByteArray := ⟨#[40]⟩
def tkCl : ByteArray := ⟨#[41]⟩
def tkCom : ByteArray := ⟨#[44]⟩
def tkSem : ByteArray := ⟨#[59]⟩
def tkIs : ByteArray := ⟨#[61]⟩
def tkBar : ByteArray := ⟨#[124]⟩
def tkArr : ByteArray := ⟨#[45, 62]⟩
def tkLet : ByteArray := ⟨#[108, 101, 116]⟩
def tkStrict : ByteArray := ⟨#[115, 116, 114, 105, 99, 116]⟩
def tkCase : ByteArray := ⟨#[99, 97, 115, 101]⟩
def tkIf : ByteArray := ⟨#[105, 102]⟩
def tkThen : ByteArray := ⟨#[116, 104, 101, 110]⟩
def tkElse : ByteArray := ⟨#[101, 108, 115, 101]⟩
def tkIn : ByteArray := ⟨#[105, 110]⟩
def tkOf : ByteArray := ⟨#[111, 102]⟩
def tkNil : ByteArray := ⟨#[110, 105, 108]⟩
def tkNo : ByteArray := ⟨#[]⟩
def wordI (x : ByteArray) : Int :=
  if x = ⟨#[116, 114, 117, 101]⟩ then 2 else if x = ⟨#[102, 97, 108, 115, 101]⟩ then 3 else if x = ⟨#[110, 105, 108]⟩ then 4 else if x = ⟨#[102, 97, 105, 108]⟩ then 5
  else if x = ⟨#[110, 111, 116]⟩ then 14 else if x = ⟨#[114, 101]⟩ then 15 else if x = ⟨#[105, 109]⟩ then 16 else if x = ⟨#[99, 111, 110, 106]⟩ then 17 else 0
def noEx : Ex := .mk 0 tkNo tkNo 0 0 0 [] 0
def twoE (op : Int) (a b : Ex) (m : Mk) : Ex := .mk op tkNo tkNo 0 0 0 [a, b] m.at_
def bindsB (ms : List Mk) (s : Rs) : Bool := isB ms s tkLet || isB ms s tkStrict || isB ms s tkCase
def upN (s : Rs) (d : Int) : Rs := ⟨s.at_, s.why, s.whr, s.nest + d⟩
mutual
def exprR (ms : List Mk) : Nat → Rs → Ex × Rs
  | 0, s => (noEx, s)
  | k + 1, s =>
    if bindsB ms s = true ∧ 32768 ≤ s.nest then (noEx, failR ms s 23)
    else if s.why ≠ 0 then (noEx, s)
    else if bindsB ms s = true then
      let r := bindR ms k (adv (upN s 1)) (nxt ms s)
      (r.1, upN r.2 (-1))
    else if isB ms s tkIf = true then
      let r := partsR ms k (adv s) [tkNo, tkThen, tkElse]
      (.mk 19 tkNo tkNo 0 0 0 r.1 (nxt ms s).at_, r.2)
    else consR ms k s
def bindR (ms : List Mk) : Nat → Rs → Mk → Ex × Rs
  | 0, s, m => (noEx, s)
  | k + 1, s, m =>
    if m.text = tkCase then branchR ms k s m.at_
    else
      let x := nameR ms s
      let t := typR ms x.2
      let r := partsR ms k t.2 [tkIs, tkIn]
      (.mk (if m.text = tkStrict then 22 else 21) x.1.text tkNo t.1 0 0 r.1 m.at_, r.2)
def branchR (ms : List Mk) : Nat → Rs → Int → Ex × Rs
  | 0, s, a => (noEx, s)
  | k + 1, s, at_ =>
    let x := exprR ms k s
    let a := exprR ms k (wantR ms (wantR ms (wantR ms x.2 tkOf) tkNil) tkArr)
    let h := nameR ms (wantR ms a.2 tkBar)
    let t := nameR ms (wantR ms h.2 tkCol)
    let b := exprR ms k (wantR ms t.2 tkArr)
    (.mk 20 h.1.text t.1.text 0 0 0 [x.1, a.1, b.1] at_, b.2)
def partsR (ms : List Mk) : Nat → Rs → List ByteArray → List Ex × Rs
  | 0, s, _ => ([], s)
  | k + 1, s, l => match l with
    | [] => ([], s)
    | x :: l =>
      let r := exprR ms k (if x = tkNo then s else wantR ms s x)
      let q := partsR ms k r.2 l
      (r.1 :: q.1, q.2)
def consR (ms : List Mk) : Nat → Rs → Ex × Rs
  | 0, s => (noEx, s)
  | k + 1, s =>
    let a := compR ms k s
    if isB ms a.2 tkCol = true then
      let b := consR ms k (adv a.2)
      (twoE 18 a.1 b.1 (nxt ms a.2), b.2)
    else a
def compR (ms : List Mk) : Nat → Rs → Ex × Rs
  | 0, s => (noEx, s)
  | k + 1, s =>
    let a := sumR ms k s
    if isB ms a.2 tkEq = true ∨ isB ms a.2 tkLt = true then
      let b := sumR ms k (adv a.2)
      (twoE (if isB ms a.2 tkLt = true then 13 else 12) a.1 b.1 (nxt ms a.2), b.2)
    else a
def sumR (ms : List Mk) : Nat → Rs → Ex × Rs
  | 0, s => (noEx, s)
  | k + 1, s =>
    let a := termR ms k s
    sumL ms k a.1 a.2
def sumL (ms : List Mk) : Nat → Ex → Rs → Ex × Rs
  | 0, a, s => (a, s)
  | k + 1, a, s =>
    if isB ms s tkAdd = true ∨ isB ms s tkSub = true then
      let b := termR ms k (adv s)
      sumL ms k (twoE (if (nxt ms s).text = tkSub then 9 else 8) a b.1 (nxt ms s)) b.2
    else (a, s)
def termR (ms : List Mk) : Nat → Rs → Ex × Rs
  | 0, s => (noEx, s)
  | k + 1, s =>
    let a := unitR ms k s
    termL ms k a.1 a.2
def termL (ms : List Mk) : Nat → Ex → Rs → Ex × Rs
  | 0, a, s => (a, s)
  | k + 1, a, s =>
    if isB ms s tkMul = true ∨ isB ms s tkQuo = true then
      let b := unitR ms k (adv s)
      termL ms k (twoE (if (nxt ms s).text = tkQuo then 11 else 10) a b.1 (nxt ms s)) b.2
    else (a, s)
def unitR (ms : List Mk) : Nat → Rs → Ex × Rs
  | 0, s => (noEx, s)
  | k + 1, s =>
    if s.why ≠ 0 then (noEx, s)
    else if (nxt ms s).kind = 2 then (.mk 1 tkNo tkNo 0 (nxt ms s).re (nxt ms s).im [] (nxt ms s).at_, adv s)
    else if (nxt ms s).kind = 0 then namedR ms k (adv s) (nxt ms s)
    else if isB ms s tkOp = true then
      let e := exprR ms k (adv s)
      (e.1, wantR ms e.2 tkCl)
    else if (nxt ms s).kind ≠ 1 ∨ wordI (nxt ms s).text = 0 then (noEx, failR ms s 21)
    else if wordI (nxt ms s).text = 5 then
      let t := typR ms (adv s)
      (.mk 5 tkNo tkNo t.1 0 0 [] (nxt ms s).at_, t.2)
    else if 14 ≤ wordI (nxt ms s).text then
      let x := exprR ms k (wantR ms (adv s) tkOp)
      (.mk (wordI (nxt ms s).text) tkNo tkNo 0 0 0 [x.1] (nxt ms s).at_, wantR ms x.2 tkCl)
    else (.mk (wordI (nxt ms s).text) tkNo tkNo 0 0 0 [] (nxt ms s).at_, adv s)
def namedR (ms : List Mk) : Nat → Rs → Mk → Ex × Rs
  | 0, s, _ => (noEx, s)
  | k + 1, s, m =>
    if isB ms s tkOp = true then
      let r := namedL ms k [] (adv s)
      (.mk 7 m.text tkNo 0 0 0 r.1 m.at_, wantR ms r.2 tkCl)
    else (.mk 6 m.text tkNo 0 0 0 [] m.at_, s)
def namedL (ms : List Mk) : Nat → List Ex → Rs → List Ex × Rs
  | 0, l, s => (l, s)
  | k + 1, l, s =>
    if s.why = 0 ∧ isB ms s tkCl = false then
      let x := exprR ms k (if l.length = 0 then s else wantR ms s tkCom)
      namedL ms k (l ++ [x.1]) x.2
    else (l, s)
end
/-! ### What they give -/
def arOk (op : Int) (n : Nat) : Prop := (op = 19 → n = 3) ∧ (op = 20 → n = 3) ∧ (op = 21 → n = 2) ∧ (op = 22 → n = 2) ∧ (op = 18 → n = 2)
mutual
def Ex.wf : Ex → Prop
  | .mk o _ _ _ _ _ l _ => arOk o l.length ∧ Ex.wfs l
def Ex.wfs : List Ex → Prop
  | [] => True
  | e :: l => Ex.wf e ∧ Ex.wfs l
end
mutual
def Ex.sz : Ex → Nat
  | .mk _ _ _ _ _ _ l _ => 1 + Ex.szs l
def Ex.szs : List Ex → Nat
  | [] => 0
  | e :: l => Ex.sz e + Ex.szs l
end
theorem Ex.wfs_snoc : ∀ (l : List Ex) (e : Ex), Ex.wfs l → Ex.wf e → Ex.wfs (l ++ [e])
  | [], e, _, h => by simp [Ex.wfs, h]
  | a :: l, e, h, h2 => by
    simp only [Ex.wfs] at h
    simp only [List.cons_append, Ex.wfs]
    exact ⟨h.1, Ex.wfs_snoc l e h.2 h2⟩
theorem Ex.szs_snoc : ∀ (l : List Ex) (e : Ex), Ex.szs (l ++ [e]) = Ex.szs l + Ex.sz e
  | [], e => by simp [Ex.szs]
  | a :: l, e => by simp only [List.cons_append, Ex.szs, Ex.szs_snoc l e]; omega
structure Pt (ms : List Mk) (s s' : Rs) (d : Nat) : Prop where
  lt : s'.at_ < ms.length
  le : s.at_ ≤ s'.at_
  nest : s'.nest = s.nest
  ad : s'.why = 0 → s.why = 0 ∧ s.at_ + d ≤ s'.at_
def mu (ms : List Mk) (s : Rs) : Nat := if s.why = 0 then ms.length - s.at_ else 0
theorem Pt.trans {ms : List Mk} {s t u : Rs} {d e : Nat} (h : Pt ms s t d) (g : Pt ms t u e) : Pt ms s u (d + e) :=
  ⟨g.lt, by have := h.le; have := g.le; omega, by rw [g.nest, h.nest], fun w => by
    obtain ⟨a, b⟩ := g.ad w
    obtain ⟨c, d⟩ := h.ad a
    exact ⟨c, by omega⟩⟩
theorem Pt.mono {ms : List Mk} {s t : Rs} {d e : Nat} (h : Pt ms s t d) (g : e ≤ d) : Pt ms s t e :=
  ⟨h.lt, h.le, h.nest, fun w => by obtain ⟨a, b⟩ := h.ad w; exact ⟨a, by omega⟩⟩
theorem Pt.refl {ms : List Mk} {s : Rs} (h : s.at_ < ms.length) : Pt ms s s 0 := ⟨h, Nat.le_refl _, rfl, fun w => ⟨w, by omega⟩⟩
theorem Pt.mu {ms : List Mk} {s t : Rs} {d : Nat} (h : Pt ms s t d) : mu ms t ≤ mu ms s := by
  unfold Fathom.mu
  split
  · rename_i w
    obtain ⟨a, b⟩ := h.ad w
    have := h.le
    rw [if_pos a]
    omega
  · omega
theorem Pt.mu1 {ms : List Mk} {s t : Rs} (h : Pt ms s t 1) (g : s.why = 0) : Fathom.mu ms t + 1 ≤ Fathom.mu ms s := by
  unfold Fathom.mu
  have := h.le; have := h.lt
  rw [if_pos g]
  split
  · rename_i w
    obtain ⟨a, b⟩ := h.ad w
    omega
  · omega
section
variable {ms : List Mk} {s : Rs}
theorem fail_pt (ha : s.at_ < ms.length) {w : Int} (hw : w ≠ 0) (d : Nat) : Pt ms s (failR ms s w) d := by
  unfold failR
  split
  · exact ⟨ha, Nat.le_refl _, rfl, fun h => absurd h hw⟩
  · rename_i h
    exact ⟨ha, Nat.le_refl _, rfl, fun g => absurd g h⟩
theorem adv_pt (hm : MsOk ms) (ha : s.at_ < ms.length) (hk : (nxt ms s).kind ≠ 4) : Pt ms s (adv s) 1 := by
  have := hm.lt ha hk
  exact ⟨this, by simp [adv], rfl, fun h => ⟨h, by simp [adv]⟩⟩
theorem isB_pt (hm : MsOk ms) (ha : s.at_ < ms.length) {x : ByteArray} (h : isB ms s x = true) : Pt ms s (adv s) 1 := adv_pt hm ha (isB_kind h).2.1
theorem want_pt (hm : MsOk ms) (ha : s.at_ < ms.length) (x : ByteArray) : Pt ms s (wantR ms s x) 1 := by
  unfold wantR
  split
  · rename_i h
    exact isB_pt hm ha h
  · exact fail_pt ha (by omega) 1
theorem name_pt (hm : MsOk ms) (ha : s.at_ < ms.length) : Pt ms s (nameR ms s).2 1 := by
  unfold nameR
  split
  · rename_i h
    exact adv_pt hm ha (by omega)
  · exact fail_pt ha (by omega) 1
theorem typ_pt (hm : MsOk ms) (ha : s.at_ < ms.length) : Pt ms s (typR ms s).2 1 ∧ ((typR ms s).2.why = 0 → 1 ≤ (typR ms s).1 ∧ (typR ms s).1 ≤ 3) := by
  unfold typR
  split
  · rename_i h
    exact ⟨isB_pt hm ha h, fun _ => by simp⟩
  · split
    · rename_i h
      exact ⟨isB_pt hm ha h, fun _ => by simp⟩
    · split
      · rename_i h
        exact ⟨isB_pt hm ha h, fun _ => by simp⟩
      · have := fail_pt ha (w := 21) (by omega) 1
        refine ⟨this, fun w => ?_⟩
        exfalso
        have := this.ad w
        unfold failR at w
        rw [if_pos this.1] at w
        simp at w
def Gd (ms : List Mk) (s : Rs) (r : Ex × Rs) : Prop := Pt ms s r.2 1 ∧ (r.2.why = 0 → r.1.wf ∧ r.1.sz + s.at_ ≤ r.2.at_)
theorem two_wf {a b : Ex} {o : Int} {m : Mk} (ho : o ≤ 18) (ha : a.wf) (hb : b.wf) : (twoE o a b m).wf := by
  refine ⟨⟨by omega, by omega, by omega, by omega, fun _ => rfl⟩, ?_⟩
  simp [Ex.wfs, ha, hb]
theorem two_sz {a b : Ex} {o : Int} {m : Mk} : (twoE o a b m).sz = 1 + (a.sz + b.sz) := by
  simp [twoE, Ex.sz, Ex.szs]
theorem leaf_wf {o : Int} {x y : ByteArray} {t : Int} {r i : Nat} {a : Int} (ho : o < 18) : (Ex.mk o x y t r i [] a).wf := ⟨⟨by omega, by omega, by omega, by omega, by omega⟩, trivial⟩
/-- All the functions at a fuel. -/
structure Al (ms : List Mk) (k : Nat) : Prop where
  expr : ∀ s, s.at_ < ms.length → 12 * mu ms s + 9 ≤ k → Gd ms s (exprR ms k s)
  bind : ∀ s m, s.at_ < ms.length → 12 * mu ms s + 17 ≤ k → Gd ms s (bindR ms k s m)
  branch : ∀ s a, s.at_ < ms.length → 12 * mu ms s + 10 ≤ k → Gd ms s (branchR ms k s a)
  parts : ∀ s l, s.at_ < ms.length → 12 * mu ms s + 9 + l.length ≤ k → Pt ms s (partsR ms k s l).2 l.length ∧ (partsR ms k s l).1.length = l.length ∧ ((partsR ms k s l).2.why = 0 → Ex.wfs (partsR ms k s l).1 ∧ Ex.szs (partsR ms k s l).1 + s.at_ ≤ (partsR ms k s l).2.at_)
  cons : ∀ s, s.at_ < ms.length → 12 * mu ms s + 8 ≤ k → Gd ms s (consR ms k s)
  comp : ∀ s, s.at_ < ms.length → 12 * mu ms s + 7 ≤ k → Gd ms s (compR ms k s)
  sum : ∀ s, s.at_ < ms.length → 12 * mu ms s + 6 ≤ k → Gd ms s (sumR ms k s)
  suml : ∀ a s, s.at_ < ms.length → 12 * mu ms s + 1 ≤ k → Pt ms s (sumL ms k a s).2 0 ∧ (a.wf → (sumL ms k a s).2.why = 0 → (sumL ms k a s).1.wf ∧ (sumL ms k a s).1.sz + s.at_ ≤ (sumL ms k a s).2.at_ + a.sz)
  term : ∀ s, s.at_ < ms.length → 12 * mu ms s + 5 ≤ k → Gd ms s (termR ms k s)
  terml : ∀ a s, s.at_ < ms.length → 12 * mu ms s + 1 ≤ k → Pt ms s (termL ms k a s).2 0 ∧ (a.wf → (termL ms k a s).2.why = 0 → (termL ms k a s).1.wf ∧ (termL ms k a s).1.sz + s.at_ ≤ (termL ms k a s).2.at_ + a.sz)
  unit : ∀ s, s.at_ < ms.length → 12 * mu ms s + 4 ≤ k → Gd ms s (unitR ms k s)
  named : ∀ s m, s.at_ < ms.length → 12 * mu ms s + 1 ≤ k → Pt ms s (namedR ms k s m).2 0 ∧ ((namedR ms k s m).2.why = 0 → (namedR ms k s m).1.wf ∧ (namedR ms k s m).1.sz + s.at_ ≤ (namedR ms k s m).2.at_ + 1)
  namedl : ∀ l s, s.at_ < ms.length → 12 * mu ms s + 10 ≤ k → Pt ms s (namedL ms k l s).2 0 ∧ (Ex.wfs l → (namedL ms k l s).2.why = 0 → Ex.wfs (namedL ms k l s).1 ∧ Ex.szs (namedL ms k l s).1 + s.at_ ≤ (namedL ms k l s).2.at_ + Ex.szs l)
end
end Go.Proofs.Fathom
set_option linter.unusedVariables false
set_option linter.unusedSimpArgs false
set_option linter.unusedSectionVars false
namespace Go.Proofs.Fathom
open Go Go.Proofs
section
variable {ms : List Mk}
theorem Gd.seq {s t : Rs} {r : Ex × Rs} {d : Nat} (h : Pt ms s t d) (g : Gd ms t r) : Gd ms s r :=
  ⟨(h.trans g.1).mono (by omega), fun w => by
    obtain ⟨a, b⟩ := g.2 w
    have := (h.ad (g.1.ad w).1).2
    exact ⟨a, by omega⟩⟩
theorem Gd.more {s t : Rs} {r : Ex × Rs} {d : Nat} (g : Gd ms s r) (h : Pt ms r.2 t d) : Gd ms s (r.1, t) :=
  ⟨(g.1.trans h).mono (by omega), fun w => by
    obtain ⟨a, b⟩ := g.2 (h.ad w).1
    have := (h.ad w).2
    exact ⟨a, by simp only; omega⟩⟩
theorem Gd.bad {s t : Rs} {e : Ex} (h : Pt ms s t 1) (hw : t.why ≠ 0) : Gd ms s (e, t) := ⟨h, fun w => absurd w hw⟩
theorem fail_why {s : Rs} {w : Int} (hw : w ≠ 0) : (failR ms s w).why ≠ 0 := by
  unfold failR
  split
  · exact hw
  · assumption
theorem same_pt {s : Rs} (ha : s.at_ < ms.length) (h : s.why ≠ 0) (d : Nat) : Pt ms s s d := ⟨ha, Nat.le_refl _, rfl, fun w => absurd w h⟩
theorem mu_pos {s : Rs} (ha : s.at_ < ms.length) (h : s.why = 0) : 1 ≤ mu ms s := by unfold mu; rw [if_pos h]; omega
theorem mu_bad {s : Rs} (h : s.why ≠ 0) : mu ms s = 0 := by unfold mu; rw [if_neg h]
variable (hm : MsOk ms)
include hm
theorem al_cons {k : Nat} (A : Al ms k) (s : Rs) (ha : s.at_ < ms.length) (hk : 12 * mu ms s + 8 ≤ k + 1) : Gd ms s (consR ms (k + 1) s) := by
  have h1 := A.comp s ha (by omega)
  simp only [consR]
  split
  · rename_i hb
    have hw := (isB_kind hb).1
    have p1 := isB_pt hm h1.1.lt hb
    have m1 := h1.1.mu
    have m2 := p1.mu1 hw
    have h2 := A.cons (adv (compR ms k s).2) p1.lt (by omega)
    refine ⟨((h1.1.trans p1).trans h2.1).mono (by omega), fun w => ?_⟩
    obtain ⟨a, b⟩ := h2.2 w
    obtain ⟨c, d⟩ := h1.2 hw
    refine ⟨two_wf (by omega) c a, ?_⟩
    rw [two_sz]
    simp only [adv] at b ⊢
    omega
  · exact h1
theorem al_comp {k : Nat} (A : Al ms k) (s : Rs) (ha : s.at_ < ms.length) (hk : 12 * mu ms s + 7 ≤ k + 1) : Gd ms s (compR ms (k + 1) s) := by
  have h1 := A.sum s ha (by omega)
  simp only [compR]
  split
  · rename_i hb
    have hw : (sumR ms k s).2.why = 0 := by rcases hb with hb | hb <;> exact (isB_kind hb).1
    have p1 : Pt ms (sumR ms k s).2 (adv (sumR ms k s).2) 1 := by rcases hb with hb | hb <;> exact isB_pt hm h1.1.lt hb
    have m1 := h1.1.mu
    have m2 := p1.mu1 hw
    have h2 := A.sum (adv (sumR ms k s).2) p1.lt (by omega)
    refine ⟨((h1.1.trans p1).trans h2.1).mono (by omega), fun w => ?_⟩
    obtain ⟨a, b⟩ := h2.2 w
    obtain ⟨c, d⟩ := h1.2 hw
    refine ⟨two_wf (by split <;> omega) c a, ?_⟩
    rw [two_sz]
    simp only [adv] at b ⊢
    omega
  · exact h1
theorem al_sum {k : Nat} (A : Al ms k) (s : Rs) (ha : s.at_ < ms.length) (hk : 12 * mu ms s + 6 ≤ k + 1) : Gd ms s (sumR ms (k + 1) s) := by
  have h1 := A.term s ha (by omega)
  have m1 := h1.1.mu
  simp only [sumR]
  have h2 := A.suml (termR ms k s).1 (termR ms k s).2 h1.1.lt (by omega)
  refine ⟨(h1.1.trans h2.1).mono (by omega), fun w => ?_⟩
  have hw := (h2.1.ad w).1
  obtain ⟨c, d⟩ := h1.2 hw
  obtain ⟨a, b⟩ := h2.2 c w
  exact ⟨a, by omega⟩
theorem al_term {k : Nat} (A : Al ms k) (s : Rs) (ha : s.at_ < ms.length) (hk : 12 * mu ms s + 5 ≤ k + 1) : Gd ms s (termR ms (k + 1) s) := by
  have h1 := A.unit s ha (by omega)
  have m1 := h1.1.mu
  simp only [termR]
  have h2 := A.terml (unitR ms k s).1 (unitR ms k s).2 h1.1.lt (by omega)
  refine ⟨(h1.1.trans h2.1).mono (by omega), fun w => ?_⟩
  have hw := (h2.1.ad w).1
  obtain ⟨c, d⟩ := h1.2 hw
  obtain ⟨a, b⟩ := h2.2 c w
  exact ⟨a, by omega⟩
theorem al_suml {k : Nat} (A : Al ms k) (a : Ex) (s : Rs) (ha : s.at_ < ms.length) (hk : 12 * mu ms s + 1 ≤ k + 1) : Pt ms s (sumL ms (k + 1) a s).2 0 ∧ (a.wf → (sumL ms (k + 1) a s).2.why = 0 → (sumL ms (k + 1) a s).1.wf ∧ (sumL ms (k + 1) a s).1.sz + s.at_ ≤ (sumL ms (k + 1) a s).2.at_ + a.sz) := by
  simp only [sumL]
  split
  · rename_i hb
    have hw : s.why = 0 := by rcases hb with hb | hb <;> exact (isB_kind hb).1
    have p1 : Pt ms s (adv s) 1 := by rcases hb with hb | hb <;> exact isB_pt hm ha hb
    have m2 := p1.mu1 hw
    have h2 := A.term (adv s) p1.lt (by omega)
    have m3 := h2.1.mu
    have h3 := A.suml (twoE (if (nxt ms s).text = tkSub then 9 else 8) a (termR ms k (adv s)).1 (nxt ms s)) (termR ms k (adv s)).2 h2.1.lt (by omega)
    refine ⟨((p1.trans h2.1).trans h3.1).mono (by omega), fun wa w => ?_⟩
    obtain ⟨c, d⟩ := h2.2 (h3.1.ad w).1
    obtain ⟨e, f⟩ := h3.2 (two_wf (by split <;> omega) wa c) w
    refine ⟨e, ?_⟩
    rw [two_sz] at f
    simp only [adv] at d f ⊢
    omega
  · exact ⟨Pt.refl ha, fun wa w => ⟨wa, by simp only; omega⟩⟩
theorem al_terml {k : Nat} (A : Al ms k) (a : Ex) (s : Rs) (ha : s.at_ < ms.length) (hk : 12 * mu ms s + 1 ≤ k + 1) : Pt ms s (termL ms (k + 1) a s).2 0 ∧ (a.wf → (termL ms (k + 1) a s).2.why = 0 → (termL ms (k + 1) a s).1.wf ∧ (termL ms (k + 1) a s).1.sz + s.at_ ≤ (termL ms (k + 1) a s).2.at_ + a.sz) := by
  simp only [termL]
  split
  · rename_i hb
    have hw : s.why = 0 := by rcases hb with hb | hb <;> exact (isB_kind hb).1
    have p1 : Pt ms s (adv s) 1 := by rcases hb with hb | hb <;> exact isB_pt hm ha hb
    have m2 := p1.mu1 hw
    have h2 := A.unit (adv s) p1.lt (by omega)
    have m3 := h2.1.mu
    have h3 := A.terml (twoE (if (nxt ms s).text = tkQuo then 11 else 10) a (unitR ms k (adv s)).1 (nxt ms s)) (unitR ms k (adv s)).2 h2.1.lt (by omega)
    refine ⟨((p1.trans h2.1).trans h3.1).mono (by omega), fun wa w => ?_⟩
    obtain ⟨c, d⟩ := h2.2 (h3.1.ad w).1
    obtain ⟨e, f⟩ := h3.2 (two_wf (by split <;> omega) wa c) w
    refine ⟨e, ?_⟩
    rw [two_sz] at f
    simp only [adv] at d f ⊢
    omega
  · exact ⟨Pt.refl ha, fun wa w => ⟨wa, by simp only; omega⟩⟩
theorem al_named {k : Nat} (A : Al ms k) (s : Rs) (m : Mk) (ha : s.at_ < ms.length) (hk : 12 * mu ms s + 1 ≤ k + 1) : Pt ms s (namedR ms (k + 1) s m).2 0 ∧ ((namedR ms (k + 1) s m).2.why = 0 → (namedR ms (k + 1) s m).1.wf ∧ (namedR ms (k + 1) s m).1.sz + s.at_ ≤ (namedR ms (k + 1) s m).2.at_ + 1) := by
  simp only [namedR]
  split
  · rename_i hb
    have hw : s.why = 0 := (isB_kind hb).1
    have p1 : Pt ms s (adv s) 1 := isB_pt hm ha hb
    have m2 := p1.mu1 hw
    have h2 := A.namedl [] (adv s) p1.lt (by omega)
    have h3 := want_pt hm h2.1.lt tkCl
    refine ⟨((p1.trans h2.1).trans h3).mono (by omega), fun w => ?_⟩
    obtain ⟨c, d⟩ := h3.ad w
    obtain ⟨e, f⟩ := h2.2 (by simp [Ex.wfs]) c
    refine ⟨⟨⟨by omega, by omega, by omega, by omega, by omega⟩, e⟩, ?_⟩
    simp only [Ex.sz, Ex.szs, adv] at f d ⊢
    omega
  · exact ⟨Pt.refl ha, fun w => ⟨leaf_wf (by omega), by simp [Ex.sz, Ex.szs]; omega⟩⟩
theorem al_namedl {k : Nat} (A : Al ms k) (l : List Ex) (s : Rs) (ha : s.at_ < ms.length) (hk : 12 * mu ms s + 10 ≤ k + 1) : Pt ms s (namedL ms (k + 1) l s).2 0 ∧ (Ex.wfs l → (namedL ms (k + 1) l s).2.why = 0 → Ex.wfs (namedL ms (k + 1) l s).1 ∧ Ex.szs (namedL ms (k + 1) l s).1 + s.at_ ≤ (namedL ms (k + 1) l s).2.at_ + Ex.szs l) := by
  simp only [namedL]
  split
  · rename_i hb
    have hw := hb.1
    have p1 : Pt ms s (if l.length = 0 then s else wantR ms s tkCom) 0 := by
      split
      · exact Pt.refl ha
      · exact (want_pt hm ha _).mono (by omega)
    have m1 := p1.mu
    have h2 := A.expr _ p1.lt (by omega)
    have m2 := (p1.trans h2.1).mu1 hw
    have h3 := A.namedl (l ++ [(exprR ms k (if l.length = 0 then s else wantR ms s tkCom)).1]) _ h2.1.lt (by omega)
    refine ⟨((p1.trans h2.1).trans h3.1).mono (by omega), fun wl w => ?_⟩
    obtain ⟨c, d⟩ := h2.2 (h3.1.ad w).1
    obtain ⟨e, f⟩ := h3.2 (Ex.wfs_snoc _ _ wl c) w
    have := p1.le
    rw [Ex.szs_snoc] at f
    refine ⟨e, ?_⟩
    omega
  · exact ⟨Pt.refl ha, fun wa w => ⟨wa, by simp only; omega⟩⟩
theorem al_unit {k : Nat} (A : Al ms k) (s : Rs) (ha : s.at_ < ms.length) (hk : 12 * mu ms s + 4 ≤ k + 1) : Gd ms s (unitR ms (k + 1) s) := by
  simp only [unitR]
  by_cases hw : s.why ≠ 0
  · rw [if_pos hw]
    exact Gd.bad (same_pt ha hw 1) hw
  rw [if_neg hw]
  have hw : s.why = 0 := by omega
  split
  · rename_i h
    refine ⟨adv_pt hm ha (by omega), fun w => ⟨leaf_wf (by omega), by simp [Ex.sz, Ex.szs, adv]; omega⟩⟩
  split
  · rename_i h
    have p1 := adv_pt hm ha (show (nxt ms s).kind ≠ 4 by omega)
    have m1 := p1.mu1 hw
    have h2 := A.named (adv s) (nxt ms s) p1.lt (by omega)
    refine ⟨(p1.trans h2.1).mono (by omega), fun w => ?_⟩
    obtain ⟨a, b⟩ := h2.2 w
    exact ⟨a, by simp only [adv] at b ⊢; omega⟩
  split
  · rename_i h
    have p1 := isB_pt hm ha h
    have m1 := p1.mu1 hw
    have h2 := A.expr (adv s) p1.lt (by omega)
    exact Gd.seq p1 (h2.more (want_pt hm h2.1.lt tkCl))
  split
  · exact Gd.bad (fail_pt ha (by omega) 1) (fail_why (by omega))
  rename_i hk1
  have hk1 : (nxt ms s).kind = 1 ∧ wordI (nxt ms s).text ≠ 0 := by
    constructor
    · rcases Classical.em ((nxt ms s).kind = 1) with h | h
      · exact h
      · exact absurd (.inl h) hk1
    · exact fun h => hk1 (.inr h)
  have p1 := adv_pt hm ha (show (nxt ms s).kind ≠ 4 by omega)
  have m1 := p1.mu1 hw
  have hwi : wordI (nxt ms s).text ≤ 17 := by
    unfold wordI
    repeat' split
    all_goals omega
  split
  · have h2 := (typ_pt hm p1.lt).1
    refine ⟨(p1.trans h2).mono (by omega), fun w => ⟨leaf_wf (by omega), ?_⟩⟩
    have := (h2.ad w).2
    simp only [Ex.sz, Ex.szs, adv] at this ⊢
    omega
  split
  · have p2 := want_pt hm p1.lt tkOp
    have m2 := p2.mu
    have h3 := A.expr (wantR ms (adv s) tkOp) p2.lt (by omega)
    have p4 := want_pt hm h3.1.lt tkCl
    refine ⟨(((p1.trans p2).trans h3.1).trans p4).mono (by omega), fun w => ?_⟩
    have w1 := p4.ad w
    obtain ⟨a, b⟩ := h3.2 w1.1
    have w2 := (h3.1.ad w1.1).1
    have w3 := (p2.ad w2).2
    refine ⟨⟨⟨by omega, by omega, by omega, by omega, by omega⟩, a, trivial⟩, ?_⟩
    have e : (adv s).at_ = s.at_ + 1 := rfl
    rw [e] at w3
    simp only [Ex.sz, Ex.szs]
    omega
  · refine ⟨p1, fun w => ⟨leaf_wf (by omega), ?_⟩⟩
    simp only [Ex.sz, Ex.szs, adv]
    omega
theorem al_parts {k : Nat} (A : Al ms k) (s : Rs) (l : List ByteArray) (ha : s.at_ < ms.length) (hk : 12 * mu ms s + 9 + l.length ≤ k + 1) : Pt ms s (partsR ms (k + 1) s l).2 l.length ∧ (partsR ms (k + 1) s l).1.length = l.length ∧ ((partsR ms (k + 1) s l).2.why = 0 → Ex.wfs (partsR ms (k + 1) s l).1 ∧ Ex.szs (partsR ms (k + 1) s l).1 + s.at_ ≤ (partsR ms (k + 1) s l).2.at_) := by
  cases l with
  | nil =>
    simp only [partsR]
    exact ⟨Pt.refl ha, rfl, fun w => ⟨trivial, by simp [Ex.szs]⟩⟩
  | cons x l =>
    simp only [partsR, List.length_cons] at hk ⊢
    have p1 : Pt ms s (if x = tkNo then s else wantR ms s x) 0 := by
      split
      · exact Pt.refl ha
      · exact (want_pt hm ha _).mono (by omega)
    have m1 := p1.mu
    have h2 := A.expr _ p1.lt (by omega)
    have m2 := h2.1.mu
    obtain ⟨q1, q2, q3⟩ := A.parts _ l h2.1.lt (by omega)
    refine ⟨((p1.trans h2.1).trans q1).mono (by omega), by rw [q2], fun w => ?_⟩
    obtain ⟨a, b⟩ := q3 w
    obtain ⟨c, d⟩ := h2.2 (q1.ad w).1
    have := p1.le
    refine ⟨⟨c, a⟩, ?_⟩
    simp only [Ex.szs]
    omega
theorem al_branch {k : Nat} (A : Al ms k) (s : Rs) (a : Int) (ha : s.at_ < ms.length) (hk : 12 * mu ms s + 10 ≤ k + 1) : Gd ms s (branchR ms (k + 1) s a) := by
  simp only [branchR]
  have h1 := A.expr s ha (by omega)
  have p2 := want_pt hm h1.1.lt tkOf
  have p3 := want_pt hm p2.lt tkNil
  have p4 := want_pt hm p3.lt tkArr
  have m4 := (((h1.1.trans p2).trans p3).trans p4).mu
  have h5 := A.expr _ p4.lt (by omega)
  have p6 := want_pt hm h5.1.lt tkBar
  have p7 := name_pt hm p6.lt
  have p8 := want_pt hm p7.lt tkCol
  have p9 := name_pt hm p8.lt
  have p10 := want_pt hm p9.lt tkArr
  have pp := (((((((((h1.1.trans p2).trans p3).trans p4).trans h5.1).trans p6).trans p7).trans p8).trans p9).trans p10)
  have m10 := pp.mu
  have h11 := A.expr _ p10.lt (by omega)
  refine ⟨(pp.trans h11.1).mono (by omega), fun w => ?_⟩
  have w11 := h11.1.ad w
  obtain ⟨a1, b1⟩ := h11.2 w
  have w10 := p10.ad w11.1
  have w9 := p9.ad w10.1
  have w8 := p8.ad w9.1
  have w7 := p7.ad w8.1
  have w6 := p6.ad w7.1
  obtain ⟨a2, b2⟩ := h5.2 w6.1
  have w5 := h5.1.ad w6.1
  have w4 := p4.ad w5.1
  have w3 := p3.ad w4.1
  have w2 := p2.ad w3.1
  obtain ⟨a3, b3⟩ := h1.2 w2.1
  refine ⟨⟨⟨by omega, fun _ => rfl, by omega, by omega, by omega⟩, a3, a2, a1, trivial⟩, ?_⟩
  simp only [Ex.sz, Ex.szs]
  omega
theorem al_bind {k : Nat} (A : Al ms k) (s : Rs) (m : Mk) (ha : s.at_ < ms.length) (hk : 12 * mu ms s + 17 ≤ k + 1) : Gd ms s (bindR ms (k + 1) s m) := by
  simp only [bindR]
  split
  · exact A.branch s m.at_ ha (by omega)
  · have p1 := name_pt hm ha
    have p2 := (typ_pt hm p1.lt).1
    have pp := p1.trans p2
    have mm := pp.mu
    obtain ⟨q1, q2, q3⟩ := A.parts _ [tkIs, tkIn] p2.lt (by simp only [List.length_cons, List.length_nil]; omega)
    simp only [List.length_cons, List.length_nil] at q1 q2
    refine ⟨(pp.trans q1).mono (by omega), fun w => ?_⟩
    obtain ⟨a, b⟩ := q3 w
    have w1 := (pp.ad (q1.ad w).1).2
    refine ⟨⟨⟨by split <;> omega, by split <;> omega, fun _ => q2, fun _ => q2, by split <;> omega⟩, a⟩, ?_⟩
    simp only [Ex.sz]
    omega
theorem upN_mu (s : Rs) (d : Int) : mu ms (upN s d) = mu ms s := rfl
theorem al_expr {k : Nat} (A : Al ms k) (s : Rs) (ha : s.at_ < ms.length) (hk : 12 * mu ms s + 9 ≤ k + 1) : Gd ms s (exprR ms (k + 1) s) := by
  simp only [exprR]
  split
  · exact Gd.bad (fail_pt ha (by omega) 1) (fail_why (by omega))
  by_cases hw : s.why ≠ 0
  · rw [if_pos hw]
    exact Gd.bad (same_pt ha hw 1) hw
  rw [if_neg hw]
  have hw : s.why = 0 := by omega
  split
  · rename_i hb
    have p1 : Pt ms s (adv s) 1 := by
      simp only [bindsB, Bool.or_eq_true] at hb
      rcases hb with (hb | hb) | hb <;> exact isB_pt hm ha hb
    have m1 := p1.mu1 hw
    have h2 := A.bind (adv (upN s 1)) (nxt ms s) p1.lt (by have : mu ms (adv (upN s 1)) = mu ms (adv s) := rfl; omega)
    generalize bindR ms k (adv (upN s 1)) (nxt ms s) = r at *
    refine ⟨⟨h2.1.lt, by have := h2.1.le; simp only [adv, upN] at this ⊢; omega, by have := h2.1.nest; simp only [adv, upN] at this ⊢; omega, fun w => ⟨hw, ?_⟩⟩, fun w => ?_⟩
    · have := (h2.1.ad w).2
      simp only [adv, upN] at this ⊢
      omega
    · obtain ⟨a, b⟩ := h2.2 w
      refine ⟨a, ?_⟩
      simp only [adv, upN] at b ⊢
      omega
  split
  · rename_i hb
    have p1 : Pt ms s (adv s) 1 := isB_pt hm ha hb
    have m1 := p1.mu1 hw
    obtain ⟨q1, q2, q3⟩ := A.parts (adv s) [tkNo, tkThen, tkElse] p1.lt (by simp only [List.length_cons, List.length_nil]; omega)
    simp only [List.length_cons, List.length_nil] at q1 q2
    refine ⟨(p1.trans q1).mono (by omega), fun w => ?_⟩
    obtain ⟨a, b⟩ := q3 w
    refine ⟨⟨⟨fun _ => q2, by omega, by omega, by omega, by omega⟩, a⟩, ?_⟩
    simp only [Ex.sz, adv] at b ⊢
    omega
  · exact A.cons s ha (by omega)
theorem al : ∀ k, Al ms k
  | 0 => ⟨fun _ _ h => by omega, fun _ _ _ h => by omega, fun _ _ _ h => by omega, fun _ _ _ h => by omega, fun _ _ h => by omega, fun _ _ h => by omega, fun _ _ h => by omega, fun _ _ _ h => by omega, fun _ _ h => by omega, fun _ _ _ h => by omega, fun _ _ h => by omega, fun _ _ _ h => by omega, fun _ _ _ h => by omega⟩
  | k + 1 => ⟨al_expr hm (al k), al_bind hm (al k), al_branch hm (al k), al_parts hm (al k), al_cons hm (al k), al_comp hm (al k), al_sum hm (al k), al_suml hm (al k), al_term hm (al k), al_terml hm (al k), al_unit hm (al k), al_named hm (al k), al_namedl hm (al k)⟩
end
end Go.Proofs.Fathom
