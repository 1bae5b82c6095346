/- A part of the proof of 'Rows.QueryReadUptoSaid': for every text and every seeds (of bulk at most 1048576 together) fathomlaw19.QueryRead returns true and its arguments read afterwards as before. -/
import Derived.Test.YtaikjbfkbijlnaaGreatF15
import Derived.Test.YtaikjbfkbijlnaaGreatF16
set_option linter.unusedVariables false
set_option linter.unusedSimpArgs false
namespace Go.Proofs.Fathom
open Go Go.Proofs
theorem mixed : Tryz.prog.follows .mixedOrders = true := by kernel_rfl
abbrev PS (f : FuncId) (args : List V) (r : V) : Prop := PSpec Tryz.prog f args r
abbrev I (n : Int) : V := .int .i64 n

theorem callM_id {P : Program} {ob : Obs} {f : FuncId} {args : List V} {K : V → Prop} (h : callM P ob f args K) : callM P ob f args K := h
theorem callM_i {P : Program} {ob : Obs} {f : FuncId} {args : List V} {K : V → Prop} {r : V} (h : PSpec P f args r) (hk : K r) : callM P ob f args K := ⟨r, h ob, hk⟩
abbrev CS (f : FuncId) (args : List V) (L : List (Nat × AObj)) (n : Nat) (r : V) (L' : List (Nat × AObj)) (n' : Nat) : Prop := CSpec Tryz.prog f args L n r L' n'
/-- A call that makes objects and changes none. -/
theorem ecall_n {P : Program} {f : FuncId} {caps args : List V} {sl : Nat → V} {ob : Obs} {nx nt bs : Nat} {K : St → V → Prop} {r : V} {L' : List (Nat × AObj)} {n' : Nat} (h : CSpec P f (args ++ caps) [] nx r L' n') (hL' : ∀ p ∈ L', p.1 < n' ∧ nx ≤ p.1) (hn : nx ≤ n')
    (hk : K ⟨sl, Obs.ov ob L', n', nt, bs⟩ r) : ecallM P (.fn f caps) args ⟨sl, ob, nx, nt, bs⟩ K :=
  ⟨[], _, h.e, (fun p hp => by cases hp), by rintro _ _ _ ⟨rfl, rfl, rfl⟩; exact ⟨(fun p hp => by cases hp), fun p hp => ⟨(hL' p hp).1, .inr (hL' p hp).2⟩, hn, hk⟩⟩
/-- A call that changes objects. -/
theorem ecall_c {P : Program} {f : FuncId} {caps args : List V} {sl : Nat → V} {ob : Obs} {nx nt bs : Nat} {K : St → V → Prop} {r : V} {L L' : List (Nat × AObj)} {n' : Nat} (h : CSpec P f (args ++ caps) L nx r L' n') (hL : ∀ p ∈ L, ob p.1 = some p.2) (hLL : ∀ p ∈ L, ∃ o, (p.1, o) ∈ L') (hL' : ∀ p ∈ L', p.1 < n' ∧ ((∃ o, (p.1, o) ∈ L) ∨ nx ≤ p.1)) (hn : nx ≤ n')
    (hk : K ⟨sl, Obs.ov ob L', n', nt, bs⟩ r) : ecallM P (.fn f caps) args ⟨sl, ob, nx, nt, bs⟩ K :=
  ⟨L, _, h.e, hL, by rintro _ _ _ ⟨rfl, rfl, rfl⟩; exact ⟨hLL, hL', hn, hk⟩⟩
theorem ov_nil {ob : Obs} : Obs.ov ob [] = ob := rfl
theorem ov_cons {ob : Obs} {i : Nat} {o : AObj} {r : List (Nat × AObj)} : Obs.ov ob ((i, o) :: r) = upd (Obs.ov ob r) i (some o) := rfl
attribute [go_sem] ov_nil ov_cons
/-! ### The program's data, and how they lie in cells -/
def strs (l : List ByteArray) : List (List V) := l.map fun s => [.str s]
def ints (l : List Int) : List (List V) := l.map fun s => [.int .i64 s]
def u64s (l : List Int) : List (List V) := l.map fun s => [.int .u64 s]
def u8s (l : List Int) : List (List V) := l.map fun s => [.int .u8 s]
inductive Ex where
  | mk (op : Int) (name tail : ByteArray) (typ : Int) (re im : Nat) (args : List Ex) (at_ : Int)
namespace Ex
def op : Ex → Int | .mk o _ _ _ _ _ _ _ => o
def name : Ex → ByteArray | .mk _ o _ _ _ _ _ _ => o
def tail : Ex → ByteArray | .mk _ _ o _ _ _ _ _ => o
def typ : Ex → Int | .mk _ _ _ o _ _ _ _ => o
def re : Ex → Nat | .mk _ _ _ _ o _ _ _ => o
def im : Ex → Nat | .mk _ _ _ _ _ o _ _ => o
def args : Ex → List Ex | .mk _ _ _ _ _ _ o _ => o
def at_ : Ex → Int | .mk _ _ _ _ _ _ _ o => o
end Ex
mutual
def Ex.c : Ex → List V
  | .mk o n t y r i l a => [.int .i64 o, .str n, .str t, .int .i64 y, .cpx r i, .sl .no 7 (Ex.cs l), .int .i64 a]
def Ex.cs : List Ex → List (List V)
  | [] => []
  | e :: l => Ex.c e :: Ex.cs l
end
theorem Ex.c_eq (e : Ex) : e.c = [.int .i64 e.op, .str e.name, .str e.tail, .int .i64 e.typ, .cpx e.re e.im, .sl .no 7 (Ex.cs e.args), .int .i64 e.at_] := by
  cases e; simp only [Ex.c, Ex.op, Ex.name, Ex.tail, Ex.typ, Ex.re, Ex.im, Ex.args, Ex.at_]
theorem Ex.cs_eq : ∀ (l : List Ex), Ex.cs l = l.map Ex.c
  | [] => by simp [Ex.cs]
  | e :: l => by simp [Ex.cs, Ex.cs_eq l]
theorem Ex.cs_len (l : List Ex) : (Ex.cs l).length = l.length := by rw [Ex.cs_eq, List.length_map]
theorem Ex.cs_get (l : List Ex) (i : Nat) : (Ex.cs l)[i]? = l[i]?.map Ex.c := by rw [Ex.cs_eq, List.getElem?_map]
mutual
theorem Ex.bd (n : Nat) : ∀ (e : Ex), bds n e.c = true
  | .mk o nm t y r i l a => by simp [Ex.c, bds, V.bd, Ex.bdss n l]
theorem Ex.bdss (n : Nat) : ∀ (l : List Ex), Fathom.bdss n (Ex.cs l) = true
  | [] => by simp [Ex.cs, Fathom.bdss]
  | e :: l => by simp [Ex.cs, Fathom.bdss, Ex.bd n e, Ex.bdss n l]
end
theorem bdss_map {α : Type} {n : Nat} {f : α → List V} (h : ∀ a, bds n (f a) = true) : ∀ (l : List α), bdss n (l.map f) = true
  | [] => rfl
  | a :: l => by simp [bdss, h a, bdss_map h l]
structure Pm where
  name : ByteArray
  typ : Int
  at_ : Int
def Pm.c (p : Pm) : List V := [.str p.name, .int .i64 p.typ, .int .i64 p.at_]
structure Fn where
  name : ByteArray
  params : List Pm
  typ : Int
  body : Ex
  at_ : Int
def Fn.c (f : Fn) : List V := [.str f.name, .sl .no 3 (f.params.map Pm.c), .int .i64 f.typ, .int .i64 f.body.op, .str f.body.name, .str f.body.tail, .int .i64 f.body.typ, .cpx f.body.re f.body.im, .sl .no 7 (Ex.cs f.body.args), .int .i64 f.body.at_, .int .i64 f.at_]
def progV (l : List Fn) : V := .agg [.sl .no 11 (l.map Fn.c)]
structure Bn where
  name : ByteArray
  typ : Int
  point : Int
def Bn.c (b : Bn) : List V := [.str b.name, .int .i64 b.typ, .int .i64 b.point]
structure Tb where
  params : List Int
  typ : Int
  n : Int
  bits : List Int
def Tb.c (t : Tb) : List V := [.sl .no 1 (ints t.params), .int .i64 t.typ, .int .i64 t.n, .sl .no 1 (u64s t.bits)]
theorem Pm.bd (n : Nat) (p : Pm) : bds n p.c = true := rfl
theorem ints_bd (n : Nat) (l : List Int) : bdss n (ints l) = true := bdss_map (fun _ => rfl) l
theorem u64s_bd (n : Nat) (l : List Int) : bdss n (u64s l) = true := bdss_map (fun _ => rfl) l
theorem u8s_bd (n : Nat) (l : List Int) : bdss n (u8s l) = true := bdss_map (fun _ => rfl) l
theorem strs_bd (n : Nat) (l : List ByteArray) : bdss n (strs l) = true := bdss_map (fun _ => rfl) l
theorem Fn.bd (n : Nat) (f : Fn) : bds n f.c = true := by
  simp [Fn.c, bds, V.bd, Ex.bdss, bdss_map (Pm.bd n)]
theorem Tb.bd (n : Nat) (t : Tb) : bds n t.c = true := by
  simp [Tb.c, bds, V.bd, ints_bd, u64s_bd]
theorem progV_bd (n : Nat) (l : List Fn) : (progV l).bd n = true := by
  simp [progV, bds, V.bd, bdss_map (Fn.bd n)]
theorem ints_len (l : List Int) : (ints l).length = l.length := List.length_map _
theorem u64s_len (l : List Int) : (u64s l).length = l.length := List.length_map _
theorem u8s_len (l : List Int) : (u8s l).length = l.length := List.length_map _
theorem strs_len (l : List ByteArray) : (strs l).length = l.length := List.length_map _
theorem ints_get (l : List Int) (i : Nat) : (ints l)[i]? = l[i]?.map fun s => [.int .i64 s] := List.getElem?_map ..
theorem u64s_get (l : List Int) (i : Nat) : (u64s l)[i]? = l[i]?.map fun s => [.int .u64 s] := List.getElem?_map ..
theorem u8s_get (l : List Int) (i : Nat) : (u8s l)[i]? = l[i]?.map fun s => [.int .u8 s] := List.getElem?_map ..
theorem strs_get (l : List ByteArray) (i : Nat) : (strs l)[i]? = l[i]?.map fun s => [.str s] := List.getElem?_map ..
theorem nn (n : Nat) : (0 : Int) ≤ (n : Int) := Int.natCast_nonneg n
attribute [go_sem] nn ints_len u64s_len u8s_len strs_len ints_get u64s_get u8s_get strs_get Ex.cs_len Ex.cs_get List.getElem?_map
theorem getq {α : Type} {l : List α} {i : Nat} (h : i < l.length) : l[i]? = some l[i] := List.getElem?_eq_getElem h
end Go.Proofs.Fathom
