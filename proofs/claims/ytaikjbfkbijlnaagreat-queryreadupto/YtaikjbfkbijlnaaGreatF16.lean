/- A part of the proof of 'Rows.QueryReadUptoSaid': for every text and every seeds (of bulk at most 1048576 together) fathomlaw19.QueryRead returns true and its arguments read afterwards as before. -/
import Derived.Test.YtaikjbfkbijlnaaGreatF14
import Derived.IntWalk
import Derived.Attr
set_option linter.unusedVariables false
set_option linter.unusedSimpArgs false
namespace Go.Proofs.Fathom
open Go

section
variable {P : Program}
def seqK (P : Program) (b : ACode) (K : AExit → St → Prop) : AExit → St → Prop := fun e S' => match e with | .normal => awp P b K S' | e => K e S'
def blkK (id : Nat) (K : AExit → St → Prop) : AExit → St → Prop := fun e S' => match e with | .exit j => if j = id then K .normal S' else K (.exit j) S' | e => K e S'
def gsK (g : Gop) (K : AExit → St → Prop) : AExit → St → Prop := fun e S' => match e with | .normal => agh g S' (K .normal) | e => K e S'
def lpK (I : St → Prop) (K : AExit → St → Prop) : AExit → St → Prop := fun e S' => match e with | .normal => I S' | e => K e S'
def nrmK (K : AExit → St → Prop) : St → Prop := K .normal
def opsK (P : Program) (r : List AOper) (K : St → Prop) : St → Prop := fun S => aops P r S K
def opsBK (P : Program) (r : List AOper) (K : St → Prop) : St → Prop := fun S => aopsB P r S K
def putK (d : Option Nat) (S : St) (K : St → Prop) : V → Prop := fun v => K (S.put d v)
def eputK (d : Option Nat) (K : St → Prop) : St → V → Prop := fun S v => K (S.put d v)
def cndM (P : Program) (v : V) (a b : ACode) (K : AExit → St → Prop) (S : St) : Prop := match v with
  | .bool t => (t = true → awp P a K S) ∧ (t = false → awp P b K S)
  | _ => False
def grdM (P : Program) (v : V) (w : Bool) (d : Option Nat) (op : AX) (r : List AOper) (S : St) (K : St → Prop) : Prop := match v with
  | .bool t => (t = w → aops P (⟨d, none, op⟩ :: r) S K) ∧ (t = (!w) → aops P r (S.put d (.tup [])) K)
  | .tup [] => aops P r (S.put d (.tup [])) K
  | _ => False
def retK (res : List ARes) (Q : St → V → Prop) : AExit → St → Prop := fun e S => (e = .normal ∨ e = .ret) ∧ ares S res fun vs => Q S (tupV vs)

def mintM (v : V) (t : Nat) (S : St) (K : St → Prop) : Prop := match v with
  | .sl .full z xs => K { S with sl := upd S.sl t (.sl (.tip S.nx) z xs), ob := upd S.ob S.nx (some (.tip z xs.length)), nx := S.nx + 1 }
  | _ => False
theorem awp_skip {K : AExit → St → Prop} {S : St} : awp P .skip K S = K .normal S := rfl
theorem awp_ret {K : AExit → St → Prop} {S : St} : awp P .ret K S = K .ret S := rfl
theorem awp_exit {K : AExit → St → Prop} {S : St} {id : Nat} : awp P (.exit id) K S = K (.exit id) S := rfl
theorem awp_reg {K : AExit → St → Prop} {S : St} {os : List AOper} : awp P (.reg os) K S = aops P os S (nrmK K) := rfl
theorem awp_drw {K : AExit → St → Prop} {S : St} {os : List AOper} : awp P (.drw os) K S = aops P os S (nrmK K) := rfl
theorem awp_drb {K : AExit → St → Prop} {S : St} {os : List AOper} {o : List Nat} : awp P (.drb os o) K S = aopsB P (pickA os o) S (nrmK K) := rfl
theorem awp_seq {K : AExit → St → Prop} {S : St} {a b : ACode} : awp P (.seq a b) K S = awp P a (seqK P b K) S := by
  simp only [awp]; congr 1
theorem awp_cond {K : AExit → St → Prop} {S : St} {x : Opd} {a b : ACode} : awp P (.cond x a b) K S = cndM P (S.ev x) a b K S := by
  simp only [awp, cndM]; rfl
theorem awp_block {K : AExit → St → Prop} {S : St} {id : Nat} {a : ACode} : awp P (.block id a) K S = awp P a (blkK id K) S := by
  simp only [awp]; congr 1
theorem awp_gseq {K : AExit → St → Prop} {S : St} {g : Gop} {a : ACode} : awp P (.gseq g a) K S = agh g S (awp P a K) := rfl
theorem awp_seqg {K : AExit → St → Prop} {S : St} {g : Gop} {a : ACode} : awp P (.seqg a g) K S = awp P a (gsK g K) S := by
  simp only [awp]; congr 1
theorem seqK_n {K : AExit → St → Prop} {S : St} {b : ACode} : seqK P b K .normal S = awp P b K S := rfl
theorem seqK_e {K : AExit → St → Prop} {S : St} {b : ACode} {i : Nat} : seqK P b K (.exit i) S = K (.exit i) S := rfl
theorem seqK_r {K : AExit → St → Prop} {S : St} {b : ACode} : seqK P b K .ret S = K .ret S := rfl
theorem blkK_n {K : AExit → St → Prop} {S : St} {i : Nat} : blkK i K .normal S = K .normal S := rfl
theorem blkK_e {K : AExit → St → Prop} {S : St} {i : Nat} : blkK i K (.exit i) S = K .normal S := by simp [blkK]
theorem blkK_o {K : AExit → St → Prop} {S : St} {i j : Nat} (h : j ≠ i) : blkK i K (.exit j) S = K (.exit j) S := by simp [blkK, h]
theorem blkK_r {K : AExit → St → Prop} {S : St} {i : Nat} : blkK i K .ret S = K .ret S := rfl
theorem gsK_n {K : AExit → St → Prop} {S : St} {g : Gop} : gsK g K .normal S = agh g S (nrmK K) := rfl
theorem gsK_e {K : AExit → St → Prop} {S : St} {g : Gop} {i : Nat} : gsK g K (.exit i) S = K (.exit i) S := rfl
theorem gsK_r {K : AExit → St → Prop} {S : St} {g : Gop} : gsK g K .ret S = K .ret S := rfl
theorem lpK_n {K : AExit → St → Prop} {S : St} {I : St → Prop} : lpK I K .normal S = I S := rfl
theorem lpK_e {K : AExit → St → Prop} {S : St} {I : St → Prop} {i : Nat} : lpK I K (.exit i) S = K (.exit i) S := rfl
theorem lpK_r {K : AExit → St → Prop} {S : St} {I : St → Prop} : lpK I K .ret S = K .ret S := rfl
theorem nrmK_a {K : AExit → St → Prop} {S : St} : nrmK K S = K .normal S := rfl
theorem retK_n {res : List ARes} {Q : St → V → Prop} {S : St} : retK res Q .normal S = ares S res fun vs => Q S (tupV vs) := by simp [retK]
theorem retK_r {res : List ARes} {Q : St → V → Prop} {S : St} : retK res Q .ret S = ares S res fun vs => Q S (tupV vs) := by simp [retK]
theorem opsK_a {K : St → Prop} {S : St} {r : List AOper} : opsK P r K S = aops P r S K := rfl
theorem opsBK_a {K : St → Prop} {S : St} {r : List AOper} : opsBK P r K S = aopsB P r S K := rfl
theorem putK_a {K : St → Prop} {S : St} {d : Option Nat} {v : V} : putK d S K v = K (S.put d v) := rfl
theorem eputK_a {K : St → Prop} {S : St} {d : Option Nat} {v : V} : eputK d K S v = K (S.put d v) := rfl
theorem aops_nil {K : St → Prop} {S : St} : aops P [] S K = K S := rfl
theorem aops_q {K : St → Prop} {S : St} {d : Option Nat} {op : AOp} {r : List AOper} : aops P (⟨d, none, .q op⟩ :: r) S K = aq P S.ev S.ob (putK d S (opsK P r K)) op := rfl
theorem aops_e {K : St → Prop} {S : St} {d : Option Nat} {op : EOp} {r : List AOper} : aops P (⟨d, none, .e op⟩ :: r) S K = ae P S (eputK d (opsK P r K)) op := rfl
theorem aops_g {K : St → Prop} {S : St} {d : Option Nat} {t : Nat} {w : Bool} {op : AX} {r : List AOper} : aops P (⟨d, some (t, w), op⟩ :: r) S K = grdM P (S.sl t) w d op r S K := by
  cases h : S.sl t <;> simp only [aops, aoper, grdM, h] <;> try rfl
theorem aopsB_nil {K : St → Prop} {S : St} : aopsB P [] S K = K S := rfl
theorem aopsB_q {K : St → Prop} {S : St} {d : Option Nat} {op : AOp} {r : List AOper} : aopsB P (⟨d, none, .q op⟩ :: r) S K = aq P S.ev (fun _ => none) (putK d S (opsBK P r K)) op := rfl
theorem aopsB_e {K : St → Prop} {S : St} {d : Option Nat} {op : EOp} {r : List AOper} : aopsB P (⟨d, none, .e op⟩ :: r) S K = ae P S (eputK d (opsBK P r K)) op := rfl
theorem cndM_t {K : AExit → St → Prop} {S : St} {a b : ACode} : cndM P (.bool true) a b K S = awp P a K S := by simp [cndM]
theorem cndM_f {K : AExit → St → Prop} {S : St} {a b : ACode} : cndM P (.bool false) a b K S = awp P b K S := by simp [cndM]
theorem cndM_i {K : AExit → St → Prop} {S : St} {a b : ACode} {t : Bool} (h1 : t = true → awp P a K S) (h2 : t = false → awp P b K S) : cndM P (.bool t) a b K S := ⟨h1, h2⟩
theorem grdM_tt {K : St → Prop} {S : St} {d : Option Nat} {op : AX} {r : List AOper} : grdM P (.bool true) true d op r S K = aops P (⟨d, none, op⟩ :: r) S K := by simp [grdM]
theorem grdM_ff {K : St → Prop} {S : St} {d : Option Nat} {op : AX} {r : List AOper} : grdM P (.bool false) false d op r S K = aops P (⟨d, none, op⟩ :: r) S K := by simp [grdM]
theorem grdM_tf {K : St → Prop} {S : St} {d : Option Nat} {op : AX} {r : List AOper} : grdM P (.bool true) false d op r S K = aops P r (S.put d (.tup [])) K := by simp [grdM]
theorem grdM_ft {K : St → Prop} {S : St} {d : Option Nat} {op : AX} {r : List AOper} : grdM P (.bool false) true d op r S K = aops P r (S.put d (.tup [])) K := by simp [grdM]
theorem grdM_u {K : St → Prop} {S : St} {w : Bool} {d : Option Nat} {op : AX} {r : List AOper} : grdM P (.tup []) w d op r S K = aops P r (S.put d (.tup [])) K := rfl
theorem put_mk {sl : Nat → V} {ob : Obs} {nx nt bs d : Nat} {v : V} : (St.mk sl ob nx nt bs).put (some d) v = St.mk (upd sl d v) ob nx nt bs := rfl
theorem put_no {S : St} {v : V} : S.put none v = S := rfl
theorem ev_t {sl : Nat → V} {ob : Obs} {nx nt bs n : Nat} : (St.mk sl ob nx nt bs).ev (.t n) = sl n := rfl
theorem ev_c {S : St} {v : V} : S.ev (.c v) = v := rfl
theorem upd_ne' {α : Type} {f : Nat → α} {i j : Nat} {x : α} (h : j ≠ i) : upd f i x j = f j := upd_ne f x h
theorem upd_upd {α : Type} {f : Nat → α} {i : Nat} {x y : α} : upd (upd f i x) i y = upd f i y := by
  funext j; unfold upd; split <;> rfl
theorem upd_same' {α : Type} {f : Nat → α} {i : Nat} {x : α} : upd f i x i = x := upd_same f i x
theorem ofL_same {k : Nat} {v : V} {r : List (Nat × V)} : ofL ((k, v) :: r) k = v := by simp [ofL]
theorem ofL_ne {k t : Nat} {v : V} {r : List (Nat × V)} (h : t ≠ k) : ofL ((k, v) :: r) t = ofL r t := by simp [ofL, h]
theorem ofL_nil {t : Nat} : ofL [] t = .junk := rfl
theorem keep_a {l : List Nat} {sl : Nat → V} {ob : Obs} {nx nt bs : Nat} {K : St → Prop} : agh (.keep l) ⟨sl, ob, nx, nt, bs⟩ K = K ⟨ofL (l.map fun t => (t, sl t)), ob, nx, nt, bs⟩ := rfl
theorem mint_a {t : Nat} {sl : Nat → V} {ob : Obs} {nx nt bs : Nat} {K : St → Prop} : agh (.mint t) ⟨sl, ob, nx, nt, bs⟩ K = mintM (sl t) t ⟨sl, ob, nx, nt, bs⟩ K := by
  simp only [agh, mintM]; rfl
theorem mintM_s {t z : Nat} {xs : List (List V)} {sl : Nat → V} {ob : Obs} {nx nt bs : Nat} {K : St → Prop} : mintM (.sl .full z xs) t ⟨sl, ob, nx, nt, bs⟩ K = K ⟨upd sl t (.sl (.tip nx) z xs), upd ob nx (some (.tip z xs.length)), nx + 1, nt, bs⟩ := rfl
theorem ares_nil {S : St} {K : List V → Prop} : ares S [] K = K [] := rfl
theorem ares_t {S : St} {n : Nat} {r : List ARes} {K : List V → Prop} : ares S (.t n :: r) K = ares S r fun vs => K ((S.sl n).un :: vs) := rfl
def aresM (S : St) (n k : Nat) (g : Bool) (v : V) (r : List ARes) (K : List V → Prop) : Prop := match v with
  | .cref cs => k ≤ cs.length ∧ ares S r fun vs => K ((ldv g k cs).un :: vs)
  | .ptr i off => ∃ cs, S.ob i = some (.cells cs) ∧ off + k ≤ cs.length ∧ ares S r fun vs => K ((ldv g k (cs.drop off)).un :: vs)
  | _ => False
def aresO (S : St) (o : Option AObj) (off k : Nat) (g : Bool) (r : List ARes) (K : List V → Prop) : Prop := ∃ cs, o = some (.cells cs) ∧ off + k ≤ cs.length ∧ ares S r fun vs => K ((ldv g k (cs.drop off)).un :: vs)
theorem ares_c {S : St} {n k : Nat} {g : Bool} {r : List ARes} {K : List V → Prop} : ares S (.c n k g :: r) K = aresM S n k g (S.sl n) r K := by
  simp only [ares, aresM]; rfl
theorem aresM_c {S : St} {n k : Nat} {g : Bool} {cs : List V} {r : List ARes} {K : List V → Prop} : aresM S n k g (.cref cs) r K = (k ≤ cs.length ∧ ares S r fun vs => K ((ldv g k cs).un :: vs)) := rfl
theorem aresM_p {S : St} {n k i off : Nat} {g : Bool} {r : List ARes} {K : List V → Prop} : aresM S n k g (.ptr i off) r K = aresO S (S.ob i) off k g r K := rfl
theorem aresO_s {S : St} {off k : Nat} {g : Bool} {cs : List V} {r : List ARes} {K : List V → Prop} : aresO S (some (.cells cs)) off k g r K = (off + k ≤ cs.length ∧ ares S r fun vs => K ((ldv g k (cs.drop off)).un :: vs)) := by simp [aresO]
theorem wrap_i64 {x : Int} (h1 : -9223372036854775808 ≤ x) (h2 : x ≤ 9223372036854775807) : IntKind.i64.wrap x = x := by
  exact Go.IntWalk.i64_in x ⟨h1, h2⟩
theorem exists_some_eq {α : Type} {a : α} {p : α → Prop} : (∃ b, some a = some b ∧ p b) = p a := by simp
theorem exists_cells_eq {a : List V} {p : List V → Prop} : (∃ b, some (AObj.cells a) = some (.cells b) ∧ p b) = p a := by simp
theorem exists_row_eq {z : Nat} {a : List (List V)} {p : List (List V) → Prop} : (∃ b, some (AObj.row z a) = some (.row z b) ∧ p b) = p a := by simp


/-! Steps whose shape waits for a value. -/
def aqM (P : Program) (ob : Obs) (K : V → Prop) : AOp → List V → Prop := fun op vs => aq P (fun x => match x with | .t n => vs.getD n .junk | .c v => v) ob K op
def pckM (c x y : V) (K : V → Prop) : Prop := match c with
  | .bool t => (t = true → K x) ∧ (t = false → K y)
  | _ => False
def ldO (o : Option AObj) (off n : Nat) (g : Bool) (K : V → Prop) : Prop := ∃ cs, o = some (.cells cs) ∧ off + n ≤ cs.length ∧ K (ldv g n (cs.drop off))
def ldR (o : Option AObj) (m z j f n : Nat) (g : Bool) (K : V → Prop) : Prop := ∃ xs c, o = some (.row z xs) ∧ xs.length = m ∧ xs[j]? = some c ∧ f + n ≤ c.length ∧ K (ldv g n (c.drop f))
def ldC (c : Option (List V)) (f n : Nat) (g : Bool) (K : V → Prop) : Prop := ∃ d, c = some d ∧ f + n ≤ d.length ∧ K (ldv g n (d.drop f))
def ldM (ob : Obs) (n : Nat) (g : Bool) (v : V) (K : V → Prop) : Prop := match v with
  | .cref cs => n ≤ cs.length ∧ K (ldv g n cs)
  | .ptr i off => ldO (ob i) off n g K
  | .rptr i m z j f => ldR (ob i) m z j f n g K
  | _ => False
def faM (off : Nat) (v : V) (K : V → Prop) : Prop := match v with
  | .cref cs => off ≤ cs.length ∧ K (.cref (cs.drop off))
  | .ptr i o => K (.ptr i (o + off))
  | .rptr i n z j f => K (.rptr i n z j (f + off))
  | _ => False
def fldM (off n : Nat) (g : Bool) (v : V) (K : V → Prop) : Prop := match v with
  | .agg cs => off + n ≤ cs.length ∧ K (ldv g n (cs.drop off))
  | _ => False
def chkM (v : V) (K : V → Prop) : Prop := match v with
  | .cref cs => K (.cref cs)
  | .ptr i o => K (.ptr i o)
  | .fn f cs => K (.fn f cs)
  | _ => False
def notM (v : V) (K : V → Prop) : Prop := match v with
  | .bool b => K (.bool (!b))
  | _ => False
def negM (v : V) (K : V → Prop) : Prop := match v with
  | .int k n => K (.int k (k.wrap (0 - n)))
  | _ => False
def comM (v : V) (K : V → Prop) : Prop := match v with
  | .int k n => K (.int k (bitsv .xor k (if k.signed then -1 else k.max) n))
  | _ => False
def cviM (k : IntKind) (v : V) (K : V → Prop) : Prop := match v with
  | .int _ n => K (.int k (k.wrap n))
  | _ => False
def b2sM (v : V) (K : V → Prop) : Prop := match v with
  | .sl _ _ xs => ∃ bs : List Int, xs = bs.map (fun b => [V.int .u8 b]) ∧ K (.str (strOfNums bs))
  | _ => False
def someM {α : Type} (o : Option α) (K : α → Prop) : Prop := ∃ v, o = some v ∧ K v
def extM (v : V) (i : Nat) (K : V → Prop) : Prop := match v with
  | .tup vs => someM vs[i]? K
  | _ => False
def rowN (o : Option AObj) (z n : Nat) : Prop := ∃ xs, o = some (.row z xs) ∧ xs.length = n
def lenM (ob : Obs) (v : V) (K : V → Prop) : Prop := match v with
  | .sl _ _ xs => K (.int .i64 xs.length)
  | .row i n z _ l => rowN (ob i) z n ∧ K (.int .i64 l)
  | _ => False
def lensM (v : V) (K : V → Prop) : Prop := match v with
  | .str s => K (.int .i64 s.size)
  | _ => False
def crefK (K : V → Prop) (c : List V) : Prop := K (.cref c)
def u8K (K : V → Prop) (b : UInt8) : Prop := K (.int .u8 b.toNat)
def ixM (ob : Obs) (z : Nat) (v i : V) (K : V → Prop) : Prop := match v, i with
  | .sl _ z' xs, .int _ n => z' = z ∧ 0 ≤ n ∧ someM xs[n.toNat]? (crefK K)
  | .row i n z' o l, .int _ k => rowN (ob i) z' n ∧ z' = z ∧ 0 ≤ k ∧ k < l ∧ K (.rptr i n z (o + k.toNat) 0)
  | _, _ => False
def ixsM (v i : V) (K : V → Prop) : Prop := match v, i with
  | .str s, .int _ n => 0 ≤ n ∧ someM s[n.toNat]? (u8K K)
  | _, _ => False
def oiv (d : Int) : Option V → Option Int
  | none => some d
  | some (.int _ n) => some n
  | some _ => none
def slcM (z : Nat) (v : V) (lo hi mx : Option V) (K : V → Prop) : Prop := match v with
  | .sl t z' xs => z' = z ∧ ∃ l h : Int, oiv 0 lo = some l ∧ oiv xs.length hi = some h ∧ 0 ≤ l ∧ l ≤ h ∧ h ≤ xs.length ∧
      (match mx with
       | none => K (.sl (match t, hi with | .full, none => .full | _, _ => .no) z ((xs.take h.toNat).drop l.toNat))
       | some m => (match m with | .int _ m => m = h ∧ hi ≠ none | _ => False) ∧ K (.sl .full z ((xs.take h.toNat).drop l.toNat)))
  | _ => False
def slcsM (v : V) (lo hi : Option V) (K : V → Prop) : Prop := match v with
  | .str s => ∃ l h : Int, oiv 0 lo = some l ∧ oiv s.size hi = some h ∧ 0 ≤ l ∧ l ≤ h ∧ h ≤ s.size ∧ K (.str (s.extract l.toNat h.toNat))
  | _ => False
def partsOk (n : Nat) : List (Nat × Nat × V) → Bool
  | [] => true
  | (o, k, v) :: r => v.cells.length == k && v.okc && decide (o + k ≤ n) && partsOk n r
def cellsOk (z : Nat) : List V → Bool
  | [] => true
  | v :: r => v.cells.length == z && v.okc && cellsOk z r
def callM (P : Program) (ob : Obs) (f : FuncId) (args : List V) (K : V → Prop) : Prop := ∃ r, QSpec P ob f args r ∧ K r
def mmM (mx : Bool) (x : V) (rest : List V) (K : V → Prop) : Prop := x.isInt = true ∧ (rest.all fun y => y.isInt) = true ∧ K (rest.foldl (fun v y => mm2 mx v y) x)
def lkO (o : Option AObj) (s : ByteArray) (K : V → Prop) : Prop := ∃ ks m, o = some (.map ks m) ∧ K (.int .i64 (m s))
def lkM (ob : Obs) (v k : V) (K : V → Prop) : Prop := match v, k with
  | .map i, .str s => lkO (ob i) s K
  | .cmap _ m, .str s => K (.int .i64 (m s))
  | _, _ => False
def binM (op : BinOp) (tk : TK) (x y : V) (K : V → Prop) : Prop := binq op tk x y K

section
variable {P : Program} {ρ : Opd → V} {ob : Obs} {K : V → Prop}
theorem aq_mv' {x : Opd} : aq P ρ ob K (.mv x) = K (ρ x) := rfl
theorem aq_pick' {c x y : Opd} : aq P ρ ob K (.pick c x y) = pckM (ρ c) (ρ x) (ρ y) K := by simp only [aq, pckM]; rfl
theorem aq_ld' {n : Nat} {g : Bool} {x : Opd} : aq P ρ ob K (.ld n g x) = ldM ob n g (ρ x) K := by
  simp only [aq, ldM, ldO, ldR]; rfl
theorem aq_fa' {n : Nat} {x : Opd} : aq P ρ ob K (.fa n x) = faM n (ρ x) K := by simp only [aq, faM]; rfl
theorem aq_fld' {o n : Nat} {g : Bool} {x : Opd} : aq P ρ ob K (.fld o n g x) = fldM o n g (ρ x) K := by simp only [aq, fldM]; rfl
theorem aq_chk' {x : Opd} : aq P ρ ob K (.chk x) = chkM (ρ x) K := by simp only [aq, chkM]; rfl
theorem aq_bin' {op : BinOp} {tk : TK} {x y : Opd} : aq P ρ ob K (.bin op tk x y) = binM op tk (ρ x) (ρ y) K := rfl
theorem aq_not' {x : Opd} : aq P ρ ob K (.not x) = notM (ρ x) K := by simp only [aq, notM]; rfl
theorem aq_neg' {x : Opd} : aq P ρ ob K (.neg x) = negM (ρ x) K := by simp only [aq, negM]; rfl
theorem aq_com' {x : Opd} : aq P ρ ob K (.com x) = comM (ρ x) K := by simp only [aq, comM]; rfl
theorem aq_cvi' {k : IntKind} {x : Opd} : aq P ρ ob K (.cvi k x) = cviM k (ρ x) K := by simp only [aq, cviM]; rfl
theorem aq_b2s' {x : Opd} : aq P ρ ob K (.b2s x) = b2sM (ρ x) K := by simp only [aq, b2sM]; rfl
theorem aq_ext' {x : Opd} {i : Nat} : aq P ρ ob K (.ext x i) = extM (ρ x) i K := by simp only [aq, extM, someM]; rfl
theorem aq_len' {x : Opd} : aq P ρ ob K (.len x) = lenM ob (ρ x) K := by simp only [aq, lenM, rowN]; rfl
theorem aq_lens' {x : Opd} : aq P ρ ob K (.lens x) = lensM (ρ x) K := by simp only [aq, lensM]; rfl
theorem aq_ix' {z : Nat} {x i : Opd} : aq P ρ ob K (.ix z x i) = ixM ob z (ρ x) (ρ i) K := by simp only [aq, ixM, rowN, someM, crefK]; rfl
theorem aq_ixs' {x i : Opd} : aq P ρ ob K (.ixs x i) = ixsM (ρ x) (ρ i) K := by simp only [aq, ixsM, someM, u8K]; rfl
theorem lov_oiv {lo : Option Opd} : lov ρ lo = oiv 0 (lo.map ρ) := by
  cases lo with
  | none => rfl
  | some x => simp only [lov, Option.map_some]; cases ρ x <;> rfl
theorem hiv_oiv {n : Nat} {lo : Option Opd} : hiv ρ n lo = oiv n (lo.map ρ) := by
  cases lo with
  | none => rfl
  | some x => simp only [hiv, Option.map_some]; cases ρ x <;> rfl
theorem aq_slc' {z : Nat} {x : Opd} {lo hi mx : Option Opd} : aq P ρ ob K (.slc z x lo hi mx) = slcM z (ρ x) (lo.map ρ) (hi.map ρ) (mx.map ρ) K := by
  simp only [aq, slcM, lov_oiv, hiv_oiv]
  cases ρ x <;> try rfl
  rename_i t z' xs
  cases t <;> cases hi <;> cases mx <;> simp <;> intros <;> rfl
theorem aq_slcs' {x : Opd} {lo hi : Option Opd} : aq P ρ ob K (.slcs x lo hi) = slcsM (ρ x) (lo.map ρ) (hi.map ρ) K := by
  simp only [aq, slcsM, lov_oiv, hiv_oiv]; rfl
theorem partsOk_iff {n : Nat} : ∀ {l : List (Nat × Nat × V)}, partsOk n l = true ↔ (∀ p ∈ l, p.2.2.cells.length = p.2.1 ∧ p.2.2.okc = true) ∧ (∀ p ∈ l, p.1 + p.2.1 ≤ n)
  | [] => by simp [partsOk]
  | (o, k, v) :: r => by
    simp only [partsOk, Bool.and_eq_true, beq_iff_eq, decide_eq_true_eq, partsOk_iff (l := r), List.forall_mem_cons]
    constructor
    · rintro ⟨⟨⟨h1, h2⟩, h3⟩, h4, h5⟩; exact ⟨⟨⟨h1, h2⟩, h4⟩, h3, h5⟩
    · rintro ⟨⟨⟨h1, h2⟩, h4⟩, h3, h5⟩; exact ⟨⟨⟨h1, h2⟩, h3⟩, h4, h5⟩
theorem cellsOk_iff {z : Nat} : ∀ {l : List V}, cellsOk z l = true ↔ ∀ p ∈ l, p.cells.length = z ∧ p.okc = true
  | [] => by simp [cellsOk]
  | v :: r => by simp only [cellsOk, Bool.and_eq_true, beq_iff_eq, cellsOk_iff (l := r), List.forall_mem_cons]
theorem aq_bld' {zero : List V} {ps : List (Nat × Nat × Opd)} : aq P ρ ob K (.bld zero ps) = (partsOk zero.length (ps.map fun p => (p.1, p.2.1, ρ p.2.2)) = true ∧ K (.agg (fillv zero ((ps.map fun p => (p.1, p.2.1, ρ p.2.2)).map fun p => (p.1, p.2.2))))) := by
  simp only [aq, partsOk_iff, List.forall_mem_map, List.map_map, and_assoc]
  rfl
theorem aq_bsl' {z : Nat} {ps : List Opd} : aq P ρ ob K (.bsl z ps) = (cellsOk z (ps.map ρ) = true ∧ K (.sl .full z ((ps.map ρ).map V.cells))) := by
  simp only [aq, cellsOk_iff, List.forall_mem_map, List.map_map]
  rfl
theorem aq_box' {x : Opd} : aq P ρ ob K (.box x) = ((ρ x).okc = true ∧ K (.cref (ρ x).cells)) := rfl
theorem aq_call' {f : FuncId} {l : List Opd} : aq P ρ ob K (.call f l) = callM P ob f (l.map ρ) K := rfl
theorem aq_mm' {mx : Bool} {x : Opd} {l : List Opd} : aq P ρ ob K (.mm mx x l) = mmM mx (ρ x) (l.map ρ) K := by
  simp only [aq, mmM, List.all_map, List.foldl_map]; rfl
theorem aq_mkf' {f : FuncId} {l : List Opd} : aq P ρ ob K (.mkf f l) = K (.fn f (l.map ρ)) := rfl
theorem aq_mki' {t : TypeId} {x : Opd} : aq P ρ ob K (.mki t x) = K (.iface t (ρ x)) := rfl
theorem aq_lk' {x k : Opd} : aq P ρ ob K (.lk x k) = lkM ob (ρ x) (ρ k) K := by simp only [aq, lkM, lkO]; rfl

def lndM (P : Program) (ob : Obs) (f : FuncId) (vs : List V) (K : V → Prop) : Prop := ∃ args' r, lends ob vs = some args' ∧ (∀ ob', QSpec P ob' f args' r) ∧ r.flat = true ∧ K r
theorem aq_lnd' {f : FuncId} {l : List Opd} : aq P ρ ob K (.lnd f l) = lndM P ob f (l.map ρ) K := rfl
theorem lndM_i {P : Program} {ob : Obs} {f : FuncId} {vs args : List V} {r : V} {K : V → Prop} (hl : lends ob vs = some args) (h : PSpec P f args r) (hf : r.flat = true) (hk : K r) : lndM P ob f vs K := ⟨args, r, hl, h, hf, hk⟩
theorem lends_nil {ob : Obs} : lends ob [] = some [] := rfl
def lendsM (o : Option V) (p : Option (List V)) : Option (List V) := match o, p with
  | some w, some ws => some (w :: ws)
  | _, _ => none
theorem lends_cons {ob : Obs} {v : V} {vs : List V} : lends ob (v :: vs) = lendsM (lend1 ob v) (lends ob vs) := by simp only [lends, lendsM]; rfl
theorem lendsM_s {w : V} {ws : List V} : lendsM (some w) (some ws) = some (w :: ws) := rfl
def lendR (o : Option AObj) (n z ofs l : Nat) : Option V := match o with
  | some (.row z' xs) => if z' = z ∧ xs.length = n then some (.sl .no z ((xs.take (ofs + l)).drop ofs)) else none
  | _ => none
theorem lend1_r {ob : Obs} {i n z o l : Nat} : lend1 ob (.row i n z o l) = lendR (ob i) n z o l := by simp only [lend1, lendR]; rfl
theorem lendR_s {n z o l : Nat} {xs : List (List V)} (h : xs.length = n) : lendR (some (.row z xs)) n z o l = some (.sl .no z ((xs.take (o + l)).drop o)) := by simp [lendR, h]
theorem lend1_i {ob : Obs} {k : IntKind} {n : Int} : lend1 ob (.int k n) = some (.int k n) := rfl
theorem lend1_s {ob : Obs} {t : Tok} {z : Nat} {xs : List (List V)} : lend1 ob (.sl t z xs) = some (.sl t z xs) := rfl
theorem lend1_a {ob : Obs} {cs : List V} : lend1 ob (.agg cs) = some (.agg cs) := rfl
def cvfM (v : V) (K : V → Prop) : Prop := match v with
  | .int _ n => K (.flt (FloatKind.f64.nearest n))
  | _ => False
def cpxM (v w : V) (K : V → Prop) : Prop := match v, w with
  | .flt a, .flt b => K (.cpx a b)
  | _, _ => False
def mkzM (z by_ : Nat) (zero : List V) (v : V) (K : V → Prop) : Prop := match v with
  | .int _ m => 0 ≤ m ∧ m.toNat * by_ ≤ 140737488355328 ∧ K (.sl .no z (List.replicate m.toNat zero))
  | _ => False
def slrM (ob : Obs) (z : Nat) (v w : V) (K : V → Prop) : Prop := match v, w with
  | .row i n z' o l, .int _ h => rowN (ob i) z' n ∧ z' = z ∧ 0 ≤ h ∧ h ≤ l ∧ K (.row i n z o h.toNat)
  | _, _ => False
theorem aq_cvf' {x : Opd} : aq P ρ ob K (.cvf x) = cvfM (ρ x) K := by simp only [aq, cvfM]; rfl
theorem aq_cpx' {x y : Opd} : aq P ρ ob K (.cpx x y) = cpxM (ρ x) (ρ y) K := by simp only [aq, cpxM]; rfl
theorem aq_mkz' {z b : Nat} {zero : List V} {x : Opd} : aq P ρ ob K (.mkz z b zero x) = mkzM z b zero (ρ x) K := by simp only [aq, mkzM]; rfl
theorem aq_slr' {z : Nat} {x y : Opd} : aq P ρ ob K (.slr z x y) = slrM ob z (ρ x) (ρ y) K := by simp only [aq, slrM, rowN]; rfl
theorem cvfM_i {k : IntKind} {n : Int} : cvfM (.int k n) K = K (.flt (FloatKind.f64.nearest n)) := rfl
theorem cpxM_f {a b : Nat} : cpxM (.flt a) (.flt b) K = K (.cpx a b) := rfl
theorem mkzM_i {z b : Nat} {zero : List V} {k : IntKind} {m : Int} : mkzM z b zero (.int k m) K = (0 ≤ m ∧ m.toNat * b ≤ 140737488355328 ∧ K (.sl .no z (List.replicate m.toNat zero))) := rfl
theorem slrM_r {i n z o l : Nat} {k : IntKind} {h : Int} : slrM ob z (.row i n z o l) (.int k h) K = (rowN (ob i) z n ∧ 0 ≤ h ∧ h ≤ l ∧ K (.row i n z o h.toNat)) := by simp [slrM]
theorem pckM_t {x y : V} : pckM (.bool true) x y K = K x := by simp [pckM]
theorem pckM_f {x y : V} : pckM (.bool false) x y K = K y := by simp [pckM]
theorem ldM_c {n : Nat} {g : Bool} {cs : List V} : ldM ob n g (.cref cs) K = (n ≤ cs.length ∧ K (ldv g n cs)) := rfl
theorem ldM_p {n i off : Nat} {g : Bool} : ldM ob n g (.ptr i off) K = ldO (ob i) off n g K := rfl
theorem ldM_r {n i m z j f : Nat} {g : Bool} : ldM ob n g (.rptr i m z j f) K = ldR (ob i) m z j f n g K := rfl
theorem ldO_s {n off : Nat} {g : Bool} {cs : List V} : ldO (some (.cells cs)) off n g K = (off + n ≤ cs.length ∧ K (ldv g n (cs.drop off))) := by simp [ldO]
theorem ldR_s {n m z j f : Nat} {g : Bool} {xs : List (List V)} : ldR (some (.row z xs)) m z j f n g K = (xs.length = m ∧ ldC xs[j]? f n g K) := by
  simp only [ldR, ldC]
  refine propext ⟨?_, ?_⟩
  · rintro ⟨xs', c, h1, h2, h3, h4⟩; cases h1; exact ⟨h2, c, h3, h4⟩
  · rintro ⟨h2, c, h3, h4⟩; exact ⟨xs, c, rfl, h2, h3, h4⟩
theorem ldC_s {n f : Nat} {g : Bool} {c : List V} : ldC (some c) f n g K = (f + n ≤ c.length ∧ K (ldv g n (c.drop f))) := by simp [ldC]
theorem faM_c {n : Nat} {cs : List V} : faM n (.cref cs) K = (n ≤ cs.length ∧ K (.cref (cs.drop n))) := rfl
theorem faM_p {n i o : Nat} : faM n (.ptr i o) K = K (.ptr i (o + n)) := rfl
theorem faM_r {off i n z j f : Nat} : faM off (.rptr i n z j f) K = K (.rptr i n z j (f + off)) := rfl
theorem fldM_a {o n : Nat} {g : Bool} {cs : List V} : fldM o n g (.agg cs) K = (o + n ≤ cs.length ∧ K (ldv g n (cs.drop o))) := rfl
theorem chkM_c {cs : List V} : chkM (.cref cs) K = K (.cref cs) := rfl
theorem chkM_p {i o : Nat} : chkM (.ptr i o) K = K (.ptr i o) := rfl
theorem chkM_f {f : FuncId} {cs : List V} : chkM (.fn f cs) K = K (.fn f cs) := rfl
theorem notM_b {b : Bool} : notM (.bool b) K = K (.bool (!b)) := rfl
theorem negM_i {k : IntKind} {n : Int} : negM (.int k n) K = K (.int k (k.wrap (0 - n))) := rfl
theorem comM_i {n : Int} : comM (.int .u64 n) K = K (.int .u64 (bitsv .xor .u64 18446744073709551615 n)) := rfl
theorem cviM_i {k k' : IntKind} {n : Int} : cviM k (.int k' n) K = K (.int k (k.wrap n)) := rfl
theorem b2sM_u {t : Tok} {z : Nat} {bs : List Int} (h : K (.str (strOfNums bs))) : b2sM (.sl t z (bs.map fun b => [V.int .u8 b])) K := ⟨bs, rfl, h⟩
theorem someM_s {α : Type} {a : α} {K : α → Prop} : someM (some a) K = K a := by simp [someM]
theorem extM_t {vs : List V} {i : Nat} : extM (.tup vs) i K = someM vs[i]? K := rfl
theorem rowN_s {z n : Nat} {xs : List (List V)} : rowN (some (.row z xs)) z n = (xs.length = n) := by simp [rowN]
theorem lenM_s {t : Tok} {z : Nat} {xs : List (List V)} : lenM ob (.sl t z xs) K = K (.int .i64 xs.length) := rfl
theorem lenM_r {i n z o l : Nat} : lenM ob (.row i n z o l) K = (rowN (ob i) z n ∧ K (.int .i64 l)) := rfl
theorem lensM_s {s : ByteArray} : lensM (.str s) K = K (.int .i64 s.size) := rfl
theorem crefK_a {c : List V} : crefK K c = K (.cref c) := rfl
theorem u8K_a {c : UInt8} : u8K K c = K (.int .u8 c.toNat) := rfl
theorem ixM_s {t : Tok} {z : Nat} {xs : List (List V)} {k : IntKind} {n : Int} : ixM ob z (.sl t z xs) (.int k n) K = (0 ≤ n ∧ someM xs[n.toNat]? (crefK K)) := by simp [ixM]
theorem ixM_r {i n z o l : Nat} {k : IntKind} {j : Int} : ixM ob z (.row i n z o l) (.int k j) K = (rowN (ob i) z n ∧ 0 ≤ j ∧ j < l ∧ K (.rptr i n z (o + j.toNat) 0)) := by simp [ixM]
theorem ixsM_s {s : ByteArray} {k : IntKind} {n : Int} : ixsM (.str s) (.int k n) K = (0 ≤ n ∧ someM s[n.toNat]? (u8K K)) := rfl
theorem slcM_m {t : Tok} {z : Nat} {xs : List (List V)} {k k' : IntKind} {h m : Int} : slcM z (.sl t z xs) none (some (.int k h)) (some (.int k' m)) K = (0 ≤ h ∧ h ≤ xs.length ∧ m = h ∧ K (.sl .full z (xs.take h.toNat))) := by
  simp [slcM, oiv]
theorem slcM_lh {t : Tok} {z : Nat} {xs : List (List V)} {k k' : IntKind} {l h : Int} : slcM z (.sl t z xs) (some (.int k l)) (some (.int k' h)) none K = (0 ≤ l ∧ l ≤ h ∧ h ≤ xs.length ∧ K (.sl .no z ((xs.take h.toNat).drop l.toNat))) := by
  cases t <;> simp [slcM, oiv]
theorem slcM_l {t : Tok} {z : Nat} {xs : List (List V)} {k : IntKind} {l : Int} : slcM z (.sl t z xs) (some (.int k l)) none none K = (0 ≤ l ∧ l ≤ xs.length ∧ K (.sl (match t with | .full => .full | _ => .no) z (xs.drop l.toNat))) := by
  cases t <;> simp [slcM, oiv]
theorem slcM_h {t : Tok} {z : Nat} {xs : List (List V)} {k : IntKind} {h : Int} : slcM z (.sl t z xs) none (some (.int k h)) none K = (0 ≤ h ∧ h ≤ xs.length ∧ K (.sl .no z (xs.take h.toNat))) := by
  cases t <;> simp [slcM, oiv]
theorem mmM_i {mx : Bool} {k k' : IntKind} {a b : Int} : mmM mx (.int k a) [.int k' b] K = K (.int k (if mx then max a b else min a b)) := by simp [mmM, V.isInt, mm2]
theorem lkM_m {i : Nat} {s : ByteArray} : lkM ob (.map i) (.str s) K = lkO (ob i) s K := rfl
theorem lkM_c {ks : List ByteArray} {m : ByteArray → Int} {s : ByteArray} : lkM ob (.cmap ks m) (.str s) K = K (.int .i64 (m s)) := rfl
theorem lkO_s {ks : List ByteArray} {m : ByteArray → Int} {s : ByteArray} : lkO (some (.map ks m)) s K = K (.int .i64 (m s)) := by
  simp only [lkO]
  exact propext ⟨(by rintro ⟨_, _, h, h2⟩; cases h; exact h2), fun h => ⟨ks, m, rfl, h⟩⟩
section
variable {tk : TK} {k k' : IntKind} {a b : Int}
theorem bin_add : binM .add tk (.int k a) (.int k b) K = K (.int k (k.wrap (a + b))) := by simp [binM, binq, intq]
theorem bin_sub : binM .sub tk (.int k a) (.int k b) K = K (.int k (k.wrap (a - b))) := by simp [binM, binq, intq]
theorem bin_mul : binM .mul tk (.int k a) (.int k b) K = K (.int k (k.wrap (a * b))) := by simp [binM, binq, intq]
theorem bin_quo : binM .quo tk (.int k a) (.int k b) K = (b ≠ 0 ∧ K (.int k (k.wrap (a.tdiv b)))) := by simp [binM, binq, intq]
theorem bin_rem : binM .rem tk (.int k a) (.int k b) K = (b ≠ 0 ∧ K (.int k (a.tmod b))) := by simp [binM, binq, intq]
theorem bin_and : binM .and tk (.int k a) (.int k b) K = K (.int k (bitsv .and k a b)) := by simp [binM, binq, intq]
theorem bin_or : binM .or tk (.int k a) (.int k b) K = K (.int k (bitsv .or k a b)) := by simp [binM, binq, intq]
theorem bin_xor : binM .xor tk (.int k a) (.int k b) K = K (.int k (bitsv .xor k a b)) := by simp [binM, binq, intq]
theorem bin_andNot : binM .andNot tk (.int k a) (.int k b) K = K (.int k (bitsv .andNot k a b)) := by simp [binM, binq, intq]
theorem bin_shl : binM .shl tk (.int k a) (.int k' b) K = (0 ≤ b ∧ K (.int k (k.wrap (a * 2 ^ (min b.toNat k.bits))))) := by simp [binM, binq, intq]
theorem bin_shr : binM .shr tk (.int k a) (.int k' b) K = (0 ≤ b ∧ K (.int k (a.fdiv (2 ^ (min b.toNat k.bits))))) := by simp [binM, binq, intq]
theorem bin_eql : binM .eql tk (.int k a) (.int k b) K = K (.bool (decide (a = b))) := by simp [binM, binq, intq]
theorem bin_neq : binM .neq tk (.int k a) (.int k b) K = K (.bool (!decide (a = b))) := by simp [binM, binq, intq]
theorem bin_lss : binM .lss tk (.int k a) (.int k b) K = K (.bool (decide (a < b))) := by simp [binM, binq, intq]
theorem bin_leq : binM .leq tk (.int k a) (.int k b) K = K (.bool (decide (a ≤ b))) := by simp [binM, binq, intq]
theorem bin_gtr : binM .gtr tk (.int k a) (.int k b) K = K (.bool (decide (b < a))) := by simp [binM, binq, intq]
theorem bin_geq : binM .geq tk (.int k a) (.int k b) K = K (.bool (decide (b ≤ a))) := by simp [binM, binq, intq]
variable {s t : ByteArray} {x y : Bool} {cs : List V}
theorem bin_sadd : binM .add tk (.str s) (.str t) K = (s.size + t.size ≤ 9223372036854775807 ∧ K (.str (s ++ t))) := rfl
theorem bin_seql : binM .eql tk (.str s) (.str t) K = K (.bool (decide (s = t))) := rfl
theorem bin_sneq : binM .neq tk (.str s) (.str t) K = K (.bool (!decide (s = t))) := rfl
theorem bin_beql : binM .eql .bool (.bool x) (.bool y) K = K (.bool (x == y)) := by simp [binM, binq]
theorem bin_bneq : binM .neq .bool (.bool x) (.bool y) K = K (.bool (!(x == y))) := by simp [binM, binq]
theorem bin_nn : binM .eql .ptr .nilp .nilp K = K (.bool true) := by simp [binM, binq]
theorem bin_nn' : binM .neq .ptr .nilp .nilp K = K (.bool false) := by simp [binM, binq]
theorem bin_cn : binM .eql .ptr (.cref cs) .nilp K = K (.bool false) := by simp [binM, binq]
theorem bin_cn' : binM .neq .ptr (.cref cs) .nilp K = K (.bool true) := by simp [binM, binq]
end
end

/-! Steps that change objects. -/
def stO (o : Option AObj) (off n : Nat) (v : V) (S : St) (i : Nat) (K : St → V → Prop) : Prop := ∃ cs, o = some (.cells cs) ∧ off + n ≤ cs.length ∧ K { S with ob := upd S.ob i (some (.cells (splice cs off v.cells))) } .junk
def stC (c : Option (List V)) (i z j f n : Nat) (xs : List (List V)) (v : V) (S : St) (K : St → V → Prop) : Prop := ∃ d, c = some d ∧ f + n ≤ d.length ∧ K { S with ob := upd S.ob i (some (.row z (xs.set j (splice d f v.cells)))) } .junk
def stR (o : Option AObj) (i m z j f n : Nat) (v : V) (S : St) (K : St → V → Prop) : Prop := ∃ xs, o = some (.row z xs) ∧ xs.length = m ∧ stC xs[j]? i z j f n xs v S K
def stM (n : Nat) (p v : V) (S : St) (K : St → V → Prop) : Prop := v.okc = true ∧ v.cells.length = n ∧ match p with
  | .ptr i off => stO (S.ob i) off n v S i K
  | .rptr i m z j f => stR (S.ob i) i m z j f n v S K
  | _ => False
def appT (o : Option AObj) (z n : Nat) : Prop := o = some (.tip z n)
def appM (z by_ : Nat) (x y : V) (S : St) (K : St → V → Prop) : Prop := match x, y with
  | .sl tk z' xs, .sl _ z'' ys => z' = z ∧ (z'' = z ∨ ys = []) ∧ (xs.length + ys.length) * by_ ≤ 140737488355328 ∧
      (match tk with
      | .tip i => appT (S.ob i) z xs.length ∧ K { S with ob := upd S.ob i (some (.tip z (xs.length + ys.length))) } (.sl (.tip i) z (xs ++ ys))
      | .full => K { S with ob := upd S.ob S.nx (some (.tip z (xs.length + ys.length))), nx := S.nx + 1 } (.sl (.tip S.nx) z (xs ++ ys))
      | .no => False)
  | _, _ => False
def apprO (o : Option AObj) (i n z : Nat) (ys : List (List V)) (S : St) (K : St → V → Prop) : Prop := ∃ xs, o = some (.row z xs) ∧ xs.length = n ∧ K { S with ob := upd S.ob i (some (.row z (xs ++ ys))) } (.row i (n + ys.length) z 0 (n + ys.length))
def apprM (z by_ : Nat) (x y : V) (S : St) (K : St → V → Prop) : Prop := match x, y with
  | .row i n z' o l, .sl _ z'' ys => z' = z ∧ (z'' = z ∨ ys = []) ∧ o = 0 ∧ l = n ∧ (n + ys.length) * by_ ≤ 140737488355328 ∧ apprO (S.ob i) i n z ys S K
  | _, _ => False
def appnM (z by_ : Nat) (v w : V) (S : St) (K : St → V → Prop) : Prop := match v, w with
  | .sl .full _ [], .sl _ z'' ys => (z'' = z ∨ ys = []) ∧ ys.length * by_ ≤ 140737488355328 ∧
        K { S with ob := upd S.ob S.nx (some (.row z ys)), nx := S.nx + 1 } (.row S.nx ys.length z 0 ys.length)
  | _, _ => False
def mksM (z by_ : Nat) (zero : List V) (v : V) (S : St) (K : St → V → Prop) : Prop := match v with
  | .int _ m => 0 ≤ m ∧ m.toNat * by_ ≤ 140737488355328 ∧ K { S with ob := upd S.ob S.nx (some (.row z (List.replicate m.toNat zero))), nx := S.nx + 1 } (.row S.nx m.toNat z 0 m.toNat)
  | _ => False
def updO (o : Option AObj) (i : Nat) (s : ByteArray) (n : Int) (S : St) (K : St → V → Prop) : Prop := ∃ ks mm, o = some (.map ks mm) ∧
  K { S with ob := upd S.ob i (some (.map (if ks.any (fun k => decide (k = s)) then ks else ks ++ [s]) (fun x => if x = s then n else mm x))) } .junk
def updM (m k v : V) (S : St) (K : St → V → Prop) : Prop := match m, k, v with
  | .map i, .str s, .int kk n => kk = .i64 ∧ updO (S.ob i) i s n S K
  | _, _, _ => False
def ecallM (P : Program) (c : V) (args : List V) (S : St) (K : St → V → Prop) : Prop := match c with
  | .fn f caps => ∃ L Φ, CSpecE P f (args ++ caps) L S.nx Φ ∧ (∀ p ∈ L, S.ob p.1 = some p.2) ∧ ∀ r L' n', Φ r L' n' → (∀ p ∈ L, ∃ o, (p.1, o) ∈ L') ∧ (∀ p ∈ L', p.1 < n' ∧ ((∃ o, (p.1, o) ∈ L) ∨ S.nx ≤ p.1)) ∧ S.nx ≤ n' ∧
      K { S with ob := Obs.ov S.ob L', nx := n' } r
  | _ => False
section
variable {P : Program} {S : St} {K : St → V → Prop}
theorem ae_alloc' {zero : List V} : ae P S K (.alloc zero) = K { S with ob := upd S.ob S.nx (some (.cells zero)), nx := S.nx + 1 } (.ptr S.nx 0) := rfl
theorem ae_boxO' {x : Opd} : ae P S K (.boxO x) = ((S.ev x).okc = true ∧ K { S with ob := upd S.ob S.nx (some (.cells (S.ev x).cells)), nx := S.nx + 1 } (.ptr S.nx 0)) := rfl
theorem ae_st' {n : Nat} {p x : Opd} : ae P S K (.st n p x) = stM n (S.ev p) (S.ev x) S K := by
  simp only [ae, stM, stO, stR, stC]
  congr 2
  cases S.ev p <;> try rfl
  refine propext ⟨?_, ?_⟩
  · rintro ⟨xs, c, h1, h2, h3, h4⟩; exact ⟨xs, h1, h2, c, h3, h4⟩
  · rintro ⟨xs, h1, h2, c, h3, h4⟩; exact ⟨xs, c, h1, h2, h3, h4⟩
theorem ae_app' {z b : Nat} {x y : Opd} : ae P S K (.app z b x y) = appM z b (S.ev x) (S.ev y) S K := by simp only [ae, appM, appT]; rfl
theorem ae_appr' {z b : Nat} {x y : Opd} : ae P S K (.appr z b x y) = apprM z b (S.ev x) (S.ev y) S K := by simp only [ae, apprM, apprO]; rfl
theorem ae_appn' {z b : Nat} {x y : Opd} : ae P S K (.appn z b x y) = appnM z b (S.ev x) (S.ev y) S K := by simp only [ae, appnM]; rfl
theorem ae_mks' {z b : Nat} {zero : List V} {x : Opd} : ae P S K (.mks z b zero x) = mksM z b zero (S.ev x) S K := by simp only [ae, mksM]; rfl
theorem ae_mkm' : ae P S K .mkm = K { S with ob := upd S.ob S.nx (some (.map [] fun _ => 0)), nx := S.nx + 1 } (.map S.nx) := rfl
theorem ae_updm' {m k v : Opd} : ae P S K (.updm m k v) = updM (S.ev m) (S.ev k) (S.ev v) S K := by simp only [ae, updM, updO]; rfl
theorem ae_call' {c : Opd} {l : List Opd} : ae P S K (.call c l) = ecallM P (S.ev c) (l.map S.ev) S K := by simp only [ae, ecallM]; rfl
variable {sl : Nat → V} {ob : Obs} {nx nt bs : Nat}
theorem stM_p {n i off : Nat} {v : V} : stM n (.ptr i off) v ⟨sl, ob, nx, nt, bs⟩ K = (v.okc = true ∧ v.cells.length = n ∧ stO (ob i) off n v ⟨sl, ob, nx, nt, bs⟩ i K) := rfl
theorem stM_r {n i m z j f : Nat} {v : V} : stM n (.rptr i m z j f) v ⟨sl, ob, nx, nt, bs⟩ K = (v.okc = true ∧ v.cells.length = n ∧ stR (ob i) i m z j f n v ⟨sl, ob, nx, nt, bs⟩ K) := rfl
theorem stO_s {cs : List V} {off n i : Nat} {v : V} : stO (some (.cells cs)) off n v ⟨sl, ob, nx, nt, bs⟩ i K = (off + n ≤ cs.length ∧ K ⟨sl, upd ob i (some (.cells (splice cs off v.cells))), nx, nt, bs⟩ .junk) := by simp [stO]
theorem stR_s {xs : List (List V)} {n i m z j f : Nat} {v : V} : stR (some (.row z xs)) i m z j f n v S K = (xs.length = m ∧ stC xs[j]? i z j f n xs v S K) := by
  simp only [stR]
  refine propext ⟨?_, ?_⟩
  · rintro ⟨xs', h1, h2⟩; cases h1; exact h2
  · rintro h; exact ⟨xs, rfl, h⟩
theorem stC_s {xs : List (List V)} {c : List V} {n i z j f : Nat} {v : V} : stC (some c) i z j f n xs v ⟨sl, ob, nx, nt, bs⟩ K = (f + n ≤ c.length ∧ K ⟨sl, upd ob i (some (.row z (xs.set j (splice c f v.cells)))), nx, nt, bs⟩ .junk) := by simp [stC]
theorem appT_s {z n m : Nat} : appT (some (.tip z n)) z m = (n = m) := by simp [appT]
theorem appM_t {z b i : Nat} {t : Tok} {xs ys : List (List V)} : appM z b (.sl (.tip i) z xs) (.sl t z ys) ⟨sl, ob, nx, nt, bs⟩ K =
    ((xs.length + ys.length) * b ≤ 140737488355328 ∧ appT (ob i) z xs.length ∧ K ⟨sl, upd ob i (some (.tip z (xs.length + ys.length))), nx, nt, bs⟩ (.sl (.tip i) z (xs ++ ys))) := by simp [appM]
theorem appM_f {z b : Nat} {t : Tok} {xs ys : List (List V)} : appM z b (.sl .full z xs) (.sl t z ys) ⟨sl, ob, nx, nt, bs⟩ K =
    ((xs.length + ys.length) * b ≤ 140737488355328 ∧ K ⟨sl, upd ob nx (some (.tip z (xs.length + ys.length))), nx + 1, nt, bs⟩ (.sl (.tip nx) z (xs ++ ys))) := by simp [appM]
theorem apprM_s {z b i n : Nat} {t : Tok} {ys : List (List V)} : apprM z b (.row i n z 0 n) (.sl t z ys) ⟨sl, ob, nx, nt, bs⟩ K =
    ((n + ys.length) * b ≤ 140737488355328 ∧ apprO (ob i) i n z ys ⟨sl, ob, nx, nt, bs⟩ K) := by simp [apprM]
theorem apprO_s {i n z : Nat} {xs ys : List (List V)} : apprO (some (.row z xs)) i n z ys ⟨sl, ob, nx, nt, bs⟩ K =
    (xs.length = n ∧ K ⟨sl, upd ob i (some (.row z (xs ++ ys))), nx, nt, bs⟩ (.row i (n + ys.length) z 0 (n + ys.length))) := by simp [apprO]
theorem appnM_s {z b z' : Nat} {t' : Tok} {ys : List (List V)} : appnM z b (.sl .full z' []) (.sl t' z ys) ⟨sl, ob, nx, nt, bs⟩ K = (ys.length * b ≤ 140737488355328 ∧ K ⟨sl, upd ob nx (some (.row z ys)), nx + 1, nt, bs⟩ (.row nx ys.length z 0 ys.length)) := by simp [appnM]
theorem mksM_i {z b : Nat} {k : IntKind} {m : Int} {zero : List V} : mksM z b zero (.int k m) ⟨sl, ob, nx, nt, bs⟩ K =
    (0 ≤ m ∧ m.toNat * b ≤ 140737488355328 ∧ K ⟨sl, upd ob nx (some (.row z (List.replicate m.toNat zero))), nx + 1, nt, bs⟩ (.row nx m.toNat z 0 m.toNat)) := rfl
theorem updM_i {i : Nat} {s : ByteArray} {n : Int} : updM (.map i) (.str s) (.int .i64 n) ⟨sl, ob, nx, nt, bs⟩ K = updO (ob i) i s n ⟨sl, ob, nx, nt, bs⟩ K := by simp [updM]
theorem updO_s {i : Nat} {s : ByteArray} {n : Int} {ks : List ByteArray} {mm : ByteArray → Int} : updO (some (.map ks mm)) i s n ⟨sl, ob, nx, nt, bs⟩ K =
    K ⟨sl, upd ob i (some (.map (if ks.any (fun k => decide (k = s)) then ks else ks ++ [s]) (fun x => if x = s then n else mm x))), nx, nt, bs⟩ .junk := by
  simp only [updO]
  exact propext ⟨(by rintro ⟨_, _, h, h2⟩; cases h; exact h2), fun h => ⟨ks, mm, rfl, h⟩⟩
end

/-! Ghost steps. -/
def mintcC (c : Option V) (i off k z : Nat) (cs : List V) (S : St) (K : St → Prop) : Prop := (∃ z', c = some (.sl .full z' [])) ∧ K { S with ob := upd (upd S.ob S.nx (some (.row z []))) i (some (.cells (cs.set (off + k) (.row S.nx 0 z 0 0)))), nx := S.nx + 1 }
def mintcO (o : Option AObj) (i off k z : Nat) (S : St) (K : St → Prop) : Prop := ∃ cs, o = some (.cells cs) ∧ mintcC cs[off + k]? i off k z cs S K
def mintcM (v : V) (k z : Nat) (S : St) (K : St → Prop) : Prop := match v with
  | .ptr i off => mintcO (S.ob i) i off k z S K
  | _ => False
def frzD (o : Option AObj) (i j n z p l q : Nat) (cs : List V) (S : St) (K : St → Prop) : Prop := ∃ xs, o = some (.row z xs) ∧ xs.length = n ∧ K { S with ob := upd (upd S.ob j none) i (some (.cells (cs.set q (.sl .no z ((xs.take (p + l)).drop p))))) }
def frzC (c : Option V) (i q : Nat) (cs : List V) (S : St) (K : St → Prop) : Prop := ∃ j n z p l, c = some (.row j n z p l) ∧ frzD (S.ob j) i j n z p l q cs S K
def frzO (o : Option AObj) (i off k : Nat) (S : St) (K : St → Prop) : Prop := ∃ cs, o = some (.cells cs) ∧ frzC cs[off + k]? i (off + k) cs S K
def frzM (v : V) (k : Nat) (S : St) (K : St → Prop) : Prop := match v with
  | .ptr i off => frzO (S.ob i) i off k S K
  | _ => False
def frpO (o : Option AObj) (i t : Nat) (S : St) (K : St → Prop) : Prop := ∃ cs, o = some (.cells cs) ∧ K { S with sl := upd S.sl t (.cref cs), ob := upd S.ob i none }
def frpM (v : V) (t : Nat) (S : St) (K : St → Prop) : Prop := match v with
  | .ptr i 0 => frpO (S.ob i) i t S K
  | _ => False
def frrO (o' : Option AObj) (i n z o l t : Nat) (S : St) (K : St → Prop) : Prop := ∃ xs, o' = some (.row z xs) ∧ xs.length = n ∧ K { S with sl := upd S.sl t (.sl .no z ((xs.take (o + l)).drop o)), ob := upd S.ob i none }
def frrM (v : V) (t : Nat) (S : St) (K : St → Prop) : Prop := match v with
  | .row i n z o l => frrO (S.ob i) i n z o l t S K
  | _ => False
def mtrM (v : V) (t z : Nat) (S : St) (K : St → Prop) : Prop := match v with
  | .sl .full _ [] => K { S with sl := upd S.sl t (.row S.nx 0 z 0 0), ob := upd S.ob S.nx (some (.row z [])), nx := S.nx + 1 }
  | _ => False
section
variable {sl : Nat → V} {ob : Obs} {nx nt bs t k z i off : Nat} {K : St → Prop}
theorem mintc_a : agh (.mintc t k z) ⟨sl, ob, nx, nt, bs⟩ K = mintcM (sl t) k z ⟨sl, ob, nx, nt, bs⟩ K := by simp only [agh, mintcM, mintcO, mintcC]; rfl
theorem mintcM_p {S : St} : mintcM (.ptr i off) k z S K = mintcO (S.ob i) i off k z S K := rfl
theorem mintcO_s {S : St} {cs : List V} : mintcO (some (.cells cs)) i off k z S K = mintcC cs[off + k]? i off k z cs S K := by simp [mintcO]
theorem mintcC_s {z' : Nat} {cs : List V} : mintcC (some (.sl .full z' [])) i off k z cs ⟨sl, ob, nx, nt, bs⟩ K = K ⟨sl, upd (upd ob nx (some (.row z []))) i (some (.cells (cs.set (off + k) (.row nx 0 z 0 0)))), nx + 1, nt, bs⟩ := by simp [mintcC]
theorem awp_rgm {P : Program} {K : AExit → St → Prop} {S : St} {d0 d1 : Nat} {l : List Int} {os : List AOper} : awp P (.rgm d0 d1 l os) K S = aops P os ((S.put (some d0) (.sl .no 1 (l.map fun b => [.int .u8 b]))).put (some d1) (.sl .no 1 (l.map fun b => [.int .u8 b]))) (nrmK K) := rfl
def trcD (o : Option AObj) (j n z l i off k : Nat) (cs : List V) (S : St) (K : St → Prop) : Prop := ∃ xs, o = some (.row z xs) ∧ xs.length = n ∧ l ≤ n ∧
  K { S with ob := upd (upd (upd S.ob j (some (.tip z (n + 1)))) S.nx (some (.row z (xs.take l)))) i (some (.cells (cs.set (off + k) (.row S.nx l z 0 l)))), nx := S.nx + 1 }
def trcC (c : Option V) (i off k : Nat) (cs : List V) (S : St) (K : St → Prop) : Prop := ∃ j n z l, c = some (.row j n z 0 l) ∧ trcD (S.ob j) j n z l i off k cs S K
def trcO (o : Option AObj) (i off k : Nat) (S : St) (K : St → Prop) : Prop := ∃ cs, o = some (.cells cs) ∧ trcC cs[off + k]? i off k cs S K
def trcM (v : V) (k : Nat) (S : St) (K : St → Prop) : Prop := match v with
  | .ptr i off => trcO (S.ob i) i off k S K
  | _ => False
theorem trc_a : agh (.truncc t k) ⟨sl, ob, nx, nt, bs⟩ K = trcM (sl t) k ⟨sl, ob, nx, nt, bs⟩ K := by
  simp only [agh, trcM, trcO, trcC, trcD]
  split
  · rename_i ht
    simp only [ht]
    refine propext ⟨?_, ?_⟩
    · rintro ⟨cs, h1, j, n, z, l, xs, h2, h3, h4, h5, h6⟩; exact ⟨cs, h1, j, n, z, l, h2, xs, h3, h4, h5, h6⟩
    · rintro ⟨cs, h1, j, n, z, l, h2, xs, h3, h4, h5, h6⟩; exact ⟨cs, h1, j, n, z, l, xs, h2, h3, h4, h5, h6⟩
  · rename_i hx
    split
    · rename_i ht; exact absurd ht (hx _ _)
    · rfl
theorem trcM_p {S : St} : trcM (.ptr i off) k S K = trcO (S.ob i) i off k S K := rfl
theorem trcO_s {S : St} {cs : List V} : trcO (some (.cells cs)) i off k S K = trcC cs[off + k]? i off k cs S K := by simp [trcO]
theorem trcC_s {S : St} {j n z l : Nat} {cs : List V} : trcC (some (.row j n z 0 l)) i off k cs S K = trcD (S.ob j) j n z l i off k cs S K := by
  simp only [trcC]
  refine propext ⟨?_, ?_⟩
  · rintro ⟨j, n, z, l, h1, h2⟩; cases h1; exact h2
  · intro h; exact ⟨j, n, z, l, rfl, h⟩
theorem trcD_s {j n z l : Nat} {cs : List V} {xs : List (List V)} : trcD (some (.row z xs)) j n z l i off k cs ⟨sl, ob, nx, nt, bs⟩ K = (xs.length = n ∧ l ≤ n ∧ K ⟨sl, upd (upd (upd ob j (some (.tip z (n + 1)))) nx (some (.row z (xs.take l)))) i (some (.cells (cs.set (off + k) (.row nx l z 0 l)))), nx + 1, nt, bs⟩) := by
  simp only [trcD]
  refine propext ⟨?_, ?_⟩
  · rintro ⟨xs', h1, h2, h3, h4⟩; cases h1; exact ⟨h2, h3, h4⟩
  · rintro ⟨h2, h3, h4⟩; exact ⟨xs, rfl, h2, h3, h4⟩
theorem frz_a : agh (.freezec t k) ⟨sl, ob, nx, nt, bs⟩ K = frzM (sl t) k ⟨sl, ob, nx, nt, bs⟩ K := by
  simp only [agh, frzM, frzO, frzC, frzD]
  cases sl t <;> try rfl
  refine propext ⟨?_, ?_⟩
  · rintro ⟨cs, h1, j, n, z, o, l, xs, h2, h3⟩; exact ⟨cs, h1, j, n, z, o, l, h2, xs, h3⟩
  · rintro ⟨cs, h1, j, n, z, o, l, h2, xs, h3⟩; exact ⟨cs, h1, j, n, z, o, l, xs, h2, h3⟩
theorem frzM_p {S : St} : frzM (.ptr i off) k S K = frzO (S.ob i) i off k S K := rfl
theorem frzO_s {S : St} {cs : List V} : frzO (some (.cells cs)) i off k S K = frzC cs[off + k]? i (off + k) cs S K := by simp [frzO]
theorem frzC_s {S : St} {cs : List V} {j n p l q : Nat} : frzC (some (.row j n z p l)) i q cs S K = frzD (S.ob j) i j n z p l q cs S K := by
  simp only [frzC]
  exact propext ⟨(by rintro ⟨_, _, _, _, _, h, h2⟩; cases h; exact h2), fun h => ⟨_, _, _, _, _, rfl, h⟩⟩
theorem frzD_s {cs : List V} {j n p l q : Nat} {xs : List (List V)} : frzD (some (.row z xs)) i j n z p l q cs ⟨sl, ob, nx, nt, bs⟩ K = (xs.length = n ∧ K ⟨sl, upd (upd ob j none) i (some (.cells (cs.set q (.sl .no z ((xs.take (p + l)).drop p))))), nx, nt, bs⟩) := by
  simp only [frzD]
  exact propext ⟨(by rintro ⟨_, h, h2⟩; cases h; exact h2), fun h => ⟨_, rfl, h⟩⟩
theorem frp_a : agh (.freezep t) ⟨sl, ob, nx, nt, bs⟩ K = frpM (sl t) t ⟨sl, ob, nx, nt, bs⟩ K := by simp only [agh, frpM, frpO]; rfl
theorem frpM_p {S : St} : frpM (.ptr i 0) t S K = frpO (S.ob i) i t S K := rfl
theorem frpO_s {cs : List V} : frpO (some (.cells cs)) i t ⟨sl, ob, nx, nt, bs⟩ K = K ⟨upd sl t (.cref cs), upd ob i none, nx, nt, bs⟩ := by simp [frpO]
theorem frr_a : agh (.freezer t) ⟨sl, ob, nx, nt, bs⟩ K = frrM (sl t) t ⟨sl, ob, nx, nt, bs⟩ K := by simp only [agh, frrM, frrO]; rfl
theorem frrM_p {S : St} {n o l : Nat} : frrM (.row i n z o l) t S K = frrO (S.ob i) i n z o l t S K := rfl
theorem frrO_s {n o l : Nat} {xs : List (List V)} : frrO (some (.row z xs)) i n z o l t ⟨sl, ob, nx, nt, bs⟩ K = (xs.length = n ∧ K ⟨upd sl t (.sl .no z ((xs.take (o + l)).drop o)), upd ob i none, nx, nt, bs⟩) := by
  simp only [frrO]
  exact propext ⟨(by rintro ⟨_, h, h2⟩; cases h; exact h2), fun h => ⟨_, rfl, h⟩⟩
theorem mtr_a : agh (.mintr t z) ⟨sl, ob, nx, nt, bs⟩ K = mtrM (sl t) t z ⟨sl, ob, nx, nt, bs⟩ K := by simp only [agh, mtrM]; rfl
theorem mtrM_s {z' : Nat} : mtrM (.sl .full z' []) t z ⟨sl, ob, nx, nt, bs⟩ K = K ⟨upd sl t (.row nx 0 z 0 0), upd ob nx (some (.row z [])), nx + 1, nt, bs⟩ := rfl
end
theorem loop_rule {σ : Type} (mk : σ → St) (m : σ → Nat) (inv : σ → Prop) (s : σ) {a : ACode} {K : AExit → St → Prop} {S : St} (hS : S = mk s) (hi : inv s)
    (h : ∀ s, inv s → awp P a (lpK (fun S' => ∃ s', inv s' ∧ m s' < m s ∧ S' = mk s') K) (mk s)) : awp P (.loop a) K S := by
  simp only [awp]
  refine ⟨fun n S => ∃ s, inv s ∧ m s = n ∧ S = mk s, m s, ⟨s, hi, rfl, hS⟩, ?_⟩
  rintro n S' ⟨s, hs, rfl, rfl⟩
  have := h s hs
  have hk : (lpK (fun S' => ∃ s', inv s' ∧ m s' < m s ∧ S' = mk s') K) = (fun e S'' => match e with | .normal => ∃ n', n' < m s ∧ (∃ s, inv s ∧ m s = n' ∧ S'' = mk s) | e => K e S'') := by
    funext e S''
    cases e with
    | normal =>
      simp only [lpK]
      exact propext ⟨fun ⟨s', h1, h2, h3⟩ => ⟨m s', h2, s', h1, rfl, h3⟩, fun ⟨n', h1, s', h2, h3, h4⟩ => ⟨s', h2, by omega, h4⟩⟩
    | exit id => rfl
    | ret => rfl
  rw [hk] at this
  exact this

theorem pspec' (hm : P.follows .mixedOrders = true) {f : FuncId} {ac : ACode} {res : List ARes} {nt : Nat} (hf : FnW P f ac res nt) {args : List V} {r : V} (hlen : args.length ≤ nt) (hr : r.bd 0 = true)
    (h : ∀ n, awp P ac (retK res fun _ v => v = r) ⟨ofL (argL 0 args), fun _ => none, n, nt, n⟩) : PSpec P f args r := by
  obtain ⟨fn, c, h1, h2, h3, h4, h5, rfl⟩ := hf
  exact pspec hm h1 h2 h3 h4 h5 hlen hr h
theorem cspecE' (hm : P.follows .mixedOrders = true) {f : FuncId} {ac : ACode} {res : List ARes} {nt : Nat} (hf : FnW P f ac res nt) {args : List V} {L : List (Nat × AObj)} {n : Nat} {Φ : V → List (Nat × AObj) → Nat → Prop} (hlen : args.length ≤ nt)
    (h : awp P ac (retK res fun S v => ∃ L' n', Φ v L' n' ∧ v.bd n' = true ∧ n ≤ n' ∧ (∀ p ∈ L', p.1 < n' ∧ p.2.bd n' = true) ∧ n' ≤ S.nx ∧ ∀ p ∈ L', S.ob p.1 = some p.2) ⟨ofL (argL 0 args), Obs.ov (fun _ => none) L, n, nt, n⟩) : CSpecE P f args L n Φ := by
  obtain ⟨fn, c, h1, h2, h3, h4, h5, rfl⟩ := hf
  exact cspecE hm h1 h2 h3 h4 h5 hlen h
theorem cspec' (hm : P.follows .mixedOrders = true) {f : FuncId} {ac : ACode} {res : List ARes} {nt : Nat} (hf : FnW P f ac res nt) {args : List V} {r : V} {L L' : List (Nat × AObj)} {n n' : Nat} (hlen : args.length ≤ nt) (hr : r.bd n' = true) (hnn : n ≤ n')
    (hL' : ∀ p ∈ L', p.1 < n' ∧ p.2.bd n' = true)
    (h : awp P ac (retK res fun S v => v = r ∧ n' ≤ S.nx ∧ ∀ p ∈ L', S.ob p.1 = some p.2) ⟨ofL (argL 0 args), Obs.ov (fun _ => none) L, n, nt, n⟩) : CSpec P f args L n r L' n' := by
  obtain ⟨fn, c, h1, h2, h3, h4, h5, rfl⟩ := hf
  exact cspec hm h1 h2 h3 h4 h5 hlen hr hnn hL' h
end

theorem cnd_c {P : Program} {K : AExit → St → Prop} {S : St} {a b : ACode} {t : Bool} (false : t = Bool.false → cndM P (.bool Bool.false) a b K S) (true : t = Bool.true → cndM P (.bool Bool.true) a b K S) : cndM P (.bool t) a b K S := by
  cases t
  · exact false rfl
  · exact true rfl
theorem grd_c {P : Program} {K : St → Prop} {S : St} {w : Bool} {d : Option Nat} {op : AX} {r : List AOper} {t : Bool} (false : t = Bool.false → grdM P (.bool Bool.false) w d op r S K) (true : t = Bool.true → grdM P (.bool Bool.true) w d op r S K) : grdM P (.bool t) w d op r S K := by
  cases t
  · exact false rfl
  · exact true rfl
theorem pck_c {x y : V} {K : V → Prop} {t : Bool} (false : t = Bool.false → pckM (.bool Bool.false) x y K) (true : t = Bool.true → pckM (.bool Bool.true) x y K) : pckM (.bool t) x y K := by
  cases t
  · exact false rfl
  · exact true rfl
/-- How a condition is told. -/
theorem wdw : (∀ (p : Prop) [Decidable p], (decide p = true) ↔ p) ∧ (∀ (p : Prop) [Decidable p], (decide p = false) ↔ ¬ p) ∧ (∀ b : Bool, ((!b) = true) ↔ b = false) ∧ (∀ b : Bool, ((!b) = false) ↔ b = true) ∧ (∀ n m : Nat, ((n : Int) < (m : Int)) ↔ n < m) ∧ (∀ n m : Nat, ((n : Int) ≤ (m : Int)) ↔ n ≤ m) ∧
    (∀ a b : Int, ¬ a < b ↔ b ≤ a) ∧ (∀ a b : Int, ¬ a ≤ b ↔ b < a) ∧ (∀ a b : Nat, ¬ a < b ↔ b ≤ a) ∧ (∀ a b : Nat, ¬ a ≤ b ↔ b < a) ∧ (∀ (α : Type) (a b : α), (a ≠ b) ↔ ¬ a = b) ∧ (∀ p : Prop, ¬ ¬ p ↔ p) ∧ (∀ b : Bool, ¬ b = true ↔ b = false) ∧ (∀ b : Bool, ¬ b = false ↔ b = true) :=
  ⟨fun p _ => decide_eq_true_iff, fun p _ => decide_eq_false_iff_not, fun b => by simp, fun b => by simp, fun n m => Int.ofNat_lt, fun n m => Int.ofNat_le, fun a b => Int.not_lt, fun a b => Int.not_le, fun a b => Nat.not_lt, fun a b => Nat.not_le, fun α a b => Iff.rfl, fun p => Classical.not_not, fun b => by simp, fun b => by simp⟩
theorem andi {a b : Prop} (hb : b) (ha : a := by first | omega | (simp only [Bool.and_eq_true, decide_eq_true_eq]; omega)) : a ∧ b := ⟨ha, hb⟩
attribute [go_sem] aq_lnd' lends_nil lends_cons lendsM_s lend1_r lend1_i lend1_s lend1_a V.flat V.flat1 ae_appn' appnM_s aq_cvf' aq_cpx' aq_mkz' aq_slr' cvfM_i cpxM_f mkzM_i slrM_r awp_rgm trc_a trcM_p trcO_s trcC_s trcD_s mintc_a mintcM_p mintcO_s mintcC_s frz_a frzM_p frzO_s frzC_s frzD_s frp_a frpM_p frpO_s frr_a frrM_p frrO_s mtr_a mtrM_s List.set_cons_succ List.set_cons_zero upd_upd mint_a mintM_s grdM_u ares_c aresM_c aresM_p aresO_s awp_skip awp_ret awp_exit awp_reg awp_drw awp_drb awp_seq awp_cond awp_block awp_gseq awp_seqg seqK_n seqK_e seqK_r blkK_n blkK_e blkK_o blkK_r gsK_n gsK_e gsK_r lpK_n lpK_e lpK_r nrmK_a retK_n retK_r opsK_a opsBK_a putK_a eputK_a aops_nil aops_q aops_e aops_g aopsB_nil aopsB_q aopsB_e cndM_t cndM_f grdM_tt grdM_ff grdM_tf grdM_ft put_mk put_no ev_t ev_c upd_ne' upd_same' ofL_same ofL_ne ofL_nil keep_a ares_nil ares_t tupV argL aq_mv' aq_pick' aq_ld' aq_fa' aq_fld' aq_chk' aq_bin' aq_not' aq_neg' aq_com' aq_cvi' aq_b2s' aq_ext' aq_len' aq_lens' aq_ix' aq_ixs' aq_slc' aq_slcs' aq_bld' aq_bsl' aq_box' aq_call' aq_mm' aq_mkf' aq_mki' aq_lk' pckM_t pckM_f ldM_c ldM_p ldM_r ldO_s ldR_s ldC_s faM_c faM_p faM_r fldM_a chkM_c chkM_p chkM_f notM_b negM_i comM_i cviM_i someM_s extM_t rowN_s lenM_s lenM_r lensM_s crefK_a u8K_a ixM_s ixM_r ixsM_s slcM_m slcM_lh slcM_l slcM_h mmM_i lkM_m lkM_c lkO_s bin_add bin_sub bin_mul bin_quo bin_rem bin_and bin_or bin_xor bin_andNot bin_shl bin_shr bin_eql bin_neq bin_lss bin_leq bin_gtr bin_geq bin_sadd bin_seql bin_sneq bin_beql bin_bneq bin_nn bin_nn' bin_cn bin_cn' ae_alloc' ae_boxO' ae_st' ae_app' ae_appr' ae_mks' ae_mkm' ae_updm' ae_call' stM_p stM_r stO_s stR_s stC_s appT_s appM_t appM_f apprM_s apprO_s mksM_i updM_i updO_s ldv V.cells V.okc V.one fillv partsOk cellsOk V.un V.un1 splice pickA wrap_i64 Option.map_some Option.map_none beq_self_eq_true decide_true decide_false List.map_cons List.map_nil List.take_succ_cons List.take_zero List.take_nil List.drop_succ_cons List.drop_zero List.drop_nil List.length_cons List.length_nil List.headD_cons List.cons_append List.nil_append List.append_nil List.getElem?_cons_zero List.getElem?_cons_succ List.all_cons List.all_nil List.foldl_cons List.foldl_nil List.forall_mem_cons List.not_mem_nil false_imp_iff implies_true List.length_map exists_some_eq exists_cells_eq exists_row_eq Int.toNat_natCast Int.toNat_zero Int.toNat_one Nat.zero_add Nat.add_zero Nat.le_refl true_and and_true false_and and_false reduceCtorEq if_true if_false Bool.true_and Bool.and_true Bool.false_and Bool.not_true Bool.not_false true_or or_true eq_self Bool.false_eq_true
end Go.Proofs.Fathom
