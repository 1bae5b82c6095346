/- A part of the proof of 'Rows.QueryReadUptoSaid': for every text and every seeds (of bulk at most 1048576 together) fathomlaw19.QueryRead returns true and its arguments read afterwards as before. -/
import Derived.Test.YtaikjbfkbijlnaaGreatF14
set_option linter.unusedVariables false
set_option linter.unusedSimpArgs false
namespace Go.Proofs.Fathom
open Go

abbrev X (α : Type) := Except (List Nat) α
def lkv : List (Nat × V) → Nat → V
  | [], _ => .junk
  | (k, v) :: r, t => bif Nat.beq t k then v else lkv r t
theorem lkv_eq : ∀ (l : List (Nat × V)) (t : Nat), lkv l t = ofL l t
  | [], _ => rfl
  | (k, v) :: r, t => by
    simp only [lkv, ofL]
    by_cases h : t = k
    · rw [if_pos h, h]; simp [Nat.beq_eq]
    · rw [if_neg h, lkv_eq r t]
      have : Nat.beq t k = false := by
        cases hb : Nat.beq t k
        · rfl
        · exact absurd (Nat.eq_of_beq_eq_true hb) h
      rw [this]; rfl
def lko : List (Nat × AObj) → Nat → Option AObj
  | [], _ => none
  | (k, v) :: r, t => bif Nat.beq t k then some v else lko r t
def obl (l : List (Nat × AObj)) : Obs := Obs.ov (fun _ => none) l
theorem beq_ne {t k : Nat} (h : t ≠ k) : Nat.beq t k = false := by
  cases hb : Nat.beq t k
  · rfl
  · exact absurd (Nat.eq_of_beq_eq_true hb) h
theorem lko_eq : ∀ (l : List (Nat × AObj)) (t : Nat), lko l t = obl l t
  | [], _ => rfl
  | (k, v) :: r, t => by
    simp only [lko, obl, Obs.ov]
    by_cases h : t = k
    · subst h; rw [upd_same]; simp
    · rw [upd_ne _ _ h, beq_ne h]; exact lko_eq r t
def oset : List (Nat × AObj) → Nat → AObj → List (Nat × AObj)
  | [], i, o => [(i, o)]
  | (k, v) :: r, i, o => bif Nat.beq i k then (i, o) :: r else (k, v) :: oset r i o
theorem oset_eq : ∀ (l : List (Nat × AObj)) (i : Nat) (o : AObj), obl (oset l i o) = upd (obl l) i (some o)
  | [], i, o => rfl
  | (k, v) :: r, i, o => by
    simp only [oset]
    by_cases h : i = k
    · subst h
      have : Nat.beq i i = true := by simp
      rw [this]
      simp only [cond_true, obl, Obs.ov]
      funext j; unfold upd; split <;> rfl
    · rw [beq_ne h]
      have := oset_eq r i o
      simp only [cond_false, obl, Obs.ov] at this ⊢
      rw [this]
      exact upd_comm _ _ _ h
def odel : List (Nat × AObj) → Nat → List (Nat × AObj)
  | [], _ => []
  | (k, v) :: r, i => bif Nat.beq i k then odel r i else (k, v) :: odel r i
theorem odel_eq : ∀ (l : List (Nat × AObj)) (i : Nat), obl (odel l i) = upd (obl l) i none
  | [], i => by funext j; simp [odel, obl, Obs.ov, upd]
  | (k, v) :: r, i => by
    simp only [odel]
    have ih := odel_eq r i
    by_cases h : i = k
    · subst h
      have : Nat.beq i i = true := by simp
      rw [this]
      simp only [cond_true]
      rw [ih]
      simp only [obl, Obs.ov]
      funext j; unfold upd; split <;> rfl
    · rw [beq_ne h]
      simp only [cond_false, obl, Obs.ov] at ih ⊢
      rw [ih]
      exact upd_comm _ _ _ h
theorem obl_cons {i : Nat} {o : AObj} {l : List (Nat × AObj)} : obl ((i, o) :: l) = upd (obl l) i (some o) := rfl

structure RS where
  sl : List (Nat × V)
  ob : List (Nat × AObj)
  nx : Nat
def RS.st (nt bs : Nat) (s : RS) : St := ⟨ofL s.sl, obl s.ob, s.nx, nt, bs⟩
def RS.ev (s : RS) : Opd → V
  | .t n => lkv s.sl n
  | .c v => v
theorem RS.ev_eq {nt bs : Nat} {s : RS} (x : Opd) : (s.st nt bs).ev x = s.ev x := by
  cases x with
  | t n => simp only [St.ev, RS.st, RS.ev, lkv_eq]
  | c v => rfl
def RS.put (s : RS) (d : Option Nat) (v : V) : RS := match d with
  | none => s
  | some d => { s with sl := (d, v) :: s.sl }
theorem RS.put_eq {nt bs : Nat} {s : RS} {d : Option Nat} {v : V} : (s.put d v).st nt bs = (s.st nt bs).put d v := by
  cases d with
  | none => rfl
  | some d =>
    simp only [RS.put, RS.st, St.put]
    congr 1

def bseq : List UInt8 → List UInt8 → Bool
  | [], [] => true
  | a :: l, b :: r => bif Nat.beq a.toNat b.toNat then bseq l r else false
  | _, _ => false
theorem bseq_eq : ∀ (a b : List UInt8), bseq a b = decide (a = b)
  | [], [] => rfl
  | [], _ :: _ => rfl
  | _ :: _, [] => rfl
  | a :: l, b :: r => by
    simp only [bseq]
    by_cases h : a = b
    · subst h
      have : Nat.beq a.toNat a.toNat = true := by simp
      rw [this]
      simp [bseq_eq l r]
    · have : Nat.beq a.toNat b.toNat = false := beq_ne fun e => h (UInt8.toNat_inj.1 e)
      rw [this]
      simp [h]
def byeq (a b : ByteArray) : Bool := bseq a.data.toList b.data.toList
theorem byeq_eq (a b : ByteArray) : byeq a b = decide (a = b) := by
  unfold byeq
  rw [bseq_eq]
  congr 1
  cases a with | mk a => cases b with | mk b =>
    cases a with | mk a => cases b with | mk b =>
      simp

def rint (op : BinOp) (k : IntKind) (a b : Int) : X V := match op with
  | .add => .ok (.int k (k.wrap (a + b)))
  | .sub => .ok (.int k (k.wrap (a - b)))
  | .mul => .ok (.int k (k.wrap (a * b)))
  | .quo => if b = 0 then .error [1] else .ok (.int k (k.wrap (a.tdiv b)))
  | .rem => if b = 0 then .error [2] else .ok (.int k (a.tmod b))
  | .and => .ok (.int k (bitsv .and k a b))
  | .or => .ok (.int k (bitsv .or k a b))
  | .xor => .ok (.int k (bitsv .xor k a b))
  | .andNot => .ok (.int k (bitsv .andNot k a b))
  | .shl => if 0 ≤ b then .ok (.int k (k.wrap (a * 2 ^ (min b.toNat k.bits)))) else .error [3]
  | .shr => if 0 ≤ b then .ok (.int k (a.fdiv (2 ^ (min b.toNat k.bits)))) else .error [4]
  | .eql => .ok (.bool (decide (a = b)))
  | .neq => .ok (.bool (!decide (a = b)))
  | .lss => .ok (.bool (decide (a < b)))
  | .leq => .ok (.bool (decide (a ≤ b)))
  | .gtr => .ok (.bool (decide (b < a)))
  | .geq => .ok (.bool (decide (b ≤ a)))
theorem rint_ok {op : BinOp} {k : IntKind} {a b : Int} {v : V} {K : V → Prop} (h : rint op k a b = .ok v) (hk : K v) : intq op k a b K := by
  cases op <;> simp only [rint, intq] at h ⊢ <;> (try split at h) <;> (cases h <;> simp_all)
def rbin (op : BinOp) (tk : TK) (x y : V) : X V := match x, y with
  | .int k a, .int k' b => match decide (k = k'), op with
    | true, _ => rint op k a b
    | _, .shl => rint .shl k a b
    | _, .shr => rint .shr k a b
    | _, _ => .error [5]
  | .str a, .str b => match op with
    | .add => if a.size + b.size ≤ 9223372036854775807 then .ok (.str (a ++ b)) else .error [6]
    | .eql => .ok (.bool (byeq a b))
    | .neq => .ok (.bool (!byeq a b))
    | .lss => .ok (.bool (Op.bytesLess a.toList b.toList))
    | _ => .error [7]
  | .bool a, .bool b => match tk, op with
    | .bool, .eql => .ok (.bool (a == b))
    | .bool, .neq => .ok (.bool (!(a == b)))
    | _, _ => .error [8]
  | .nilp, .nilp => match tk, op with
    | .ptr, .eql => .ok (.bool true)
    | .ptr, .neq => .ok (.bool false)
    | _, _ => .error [9]
  | .cref _, .nilp => match tk, op with
    | .ptr, .eql => .ok (.bool false)
    | .ptr, .neq => .ok (.bool true)
    | _, _ => .error [10]
  | _, _ => .error [11]
theorem rbin_ok {op : BinOp} {tk : TK} {x y : V} {v : V} {K : V → Prop} (h : rbin op tk x y = .ok v) (hk : K v) : binq op tk x y K := by
  unfold rbin at h
  split at h
  · simp only [binq]
    split at h
    · rename_i hd
      exact ⟨.inl (of_decide_eq_true hd), rint_ok h hk⟩
    · exact ⟨.inr (.inl rfl), rint_ok h hk⟩
    · exact ⟨.inr (.inr rfl), rint_ok h hk⟩
    · cases h
  · simp only [binq]
    split at h <;> simp only [strq]
    · split at h
      · cases h; exact ⟨by assumption, hk⟩
      · cases h
    · cases h; rw [← byeq_eq]; exact hk
    · cases h; rw [← byeq_eq]; exact hk
    · cases h; exact hk
    · cases h
  · simp only [binq]
    split at h <;> cases h <;> exact ⟨rfl, hk⟩
  · simp only [binq]
    split at h <;> cases h <;> exact ⟨rfl, hk⟩
  · simp only [binq]
    split at h <;> cases h <;> exact ⟨rfl, hk⟩
  · cases h

def toBs : List (List V) → Option (List Int)
  | [] => some []
  | [.int .u8 b] :: r => match toBs r with
    | some l => some (b :: l)
    | none => none
  | _ => none
theorem toBs_ok : ∀ {xs : List (List V)} {bs : List Int}, toBs xs = some bs → xs = bs.map fun b => [V.int .u8 b]
  | [], bs, h => by simp only [toBs, Option.some.injEq] at h; subst h; rfl
  | c :: r, bs, h => by
    unfold toBs at h
    split at h
    · rename_i hc; cases hc
    · rename_i hc
      split at h
      · rename_i l hl
        cases h
        cases hc
        rw [toBs_ok hl]; rfl
      · cases h
    · cases h
def nlov (ρ : Opd → V) (lo : Option Opd) : Option Nat := match lo with
  | none => some 0
  | some x => match ρ x with
    | .int _ (.ofNat n) => some n
    | _ => none
def nhiv (ρ : Opd → V) (len : Nat) (hi : Option Opd) : Option Nat := match hi with
  | none => some len
  | some x => match ρ x with
    | .int _ (.ofNat n) => some n
    | _ => none
theorem nlov_ok {ρ : Opd → V} {lo : Option Opd} {n : Nat} (h : nlov ρ lo = some n) : lov ρ lo = some (n : Int) := by
  unfold nlov at h
  unfold lov
  split at h
  · cases h; rfl
  · split at h
    · rename_i hx; cases h; simp only [hx]; rfl
    · cases h
theorem nhiv_ok {ρ : Opd → V} {hi : Option Opd} {len n : Nat} (h : nhiv ρ len hi = some n) : hiv ρ len hi = some (n : Int) := by
  unfold nhiv at h
  unfold hiv
  split at h
  · cases h; rfl
  · split at h
    · rename_i hx; cases h; simp only [hx]; rfl
    · cases h

def guard {α : Type} (b : Bool) (n : Nat) (x : X α) : X α := bif b then x else .error [n]
theorem guard_ok {α : Type} {b : Bool} {n : Nat} {x : X α} {v : α} (h : guard b n x = .ok v) : b = true ∧ x = .ok v := by
  cases b
  · cases h
  · exact ⟨rfl, h⟩

def rq (ρ : Opd → V) (ob : Nat → Option AObj) (call : FuncId → List V → X V) : AOp → X V
  | .mv x => .ok (ρ x)
  | .pick c x y => match ρ c with
    | .bool t => .ok (bif t then ρ x else ρ y)
    | _ => .error [20]
  | .ld n g x => match ρ x with
    | .cref cs => guard (Nat.ble n cs.length) 21 (.ok (ldv g n cs))
    | .ptr i off => match ob i with
      | some (.cells cs) => guard (Nat.ble (off + n) cs.length) 22 (.ok (ldv g n (cs.drop off)))
      | _ => .error [23]
    | .rptr i m z j f => match ob i with
      | some (.row z' xs) => match xs[j]? with
        | some c => guard (Nat.beq z' z && Nat.beq xs.length m && Nat.ble (f + n) c.length) 24 (.ok (ldv g n (c.drop f)))
        | none => .error [25]
      | _ => .error [26]
    | _ => .error [27]
  | .fa off x => match ρ x with
    | .cref cs => guard (Nat.ble off cs.length) 28 (.ok (.cref (cs.drop off)))
    | .ptr i o => .ok (.ptr i (o + off))
    | .rptr i n z j f => .ok (.rptr i n z j (f + off))
    | _ => .error [29]
  | .fld off n g x => match ρ x with
    | .agg cs => guard (Nat.ble (off + n) cs.length) 30 (.ok (ldv g n (cs.drop off)))
    | _ => .error [31]
  | .chk x => match ρ x with
    | .cref cs => .ok (.cref cs)
    | .ptr i o => .ok (.ptr i o)
    | .fn f cs => .ok (.fn f cs)
    | _ => .error [32]
  | .bin op tk x y => rbin op tk (ρ x) (ρ y)
  | .not x => match ρ x with
    | .bool b => .ok (.bool (!b))
    | _ => .error [33]
  | .neg x => match ρ x with
    | .int k n => .ok (.int k (k.wrap (0 - n)))
    | _ => .error [34]
  | .com x => match ρ x with
    | .int k n => .ok (.int k (bitsv .xor k (if k.signed then -1 else k.max) n))
    | _ => .error [35]
  | .cvi k x => match ρ x with
    | .int _ n => .ok (.int k (k.wrap n))
    | _ => .error [36]
  | .b2s x => match ρ x with
    | .sl _ _ xs => match toBs xs with
      | some bs => .ok (.str (strOfNums bs))
      | none => .error [37]
    | _ => .error [38]
  | .ext x i => match ρ x with
    | .tup vs => match vs[i]? with
      | some v => .ok v
      | none => .error [39]
    | _ => .error [40]
  | .len x => match ρ x with
    | .sl _ _ xs => .ok (.int .i64 xs.length)
    | .row i n z _ l => match ob i with
      | some (.row z' xs) => guard (Nat.beq z' z && Nat.beq xs.length n) 41 (.ok (.int .i64 l))
      | _ => .error [42]
    | _ => .error [43]
  | .lens x => match ρ x with
    | .str s => .ok (.int .i64 s.size)
    | _ => .error [44]
  | .ix z x i => match ρ x, ρ i with
    | .sl _ z' xs, .int _ (.ofNat n) => match xs[n]? with
      | some c => guard (Nat.beq z' z) 45 (.ok (.cref c))
      | none => .error [46]
    | .row i n z' o l, .int _ (.ofNat k) => match ob i with
      | some (.row z'' xs) => guard (Nat.beq z'' z' && Nat.beq z' z && Nat.beq xs.length n && Nat.ble (k + 1) l) 47 (.ok (.rptr i n z (o + k) 0))
      | _ => .error [48]
    | _, _ => .error [49]
  | .ixs x i => match ρ x, ρ i with
    | .str s, .int _ (.ofNat n) => match s[n]? with
      | some b => .ok (.int .u8 b.toNat)
      | none => .error [50]
    | _, _ => .error [51]
  | .slc z x lo hi mx => match ρ x with
    | .sl t z' xs => match nlov ρ lo, nhiv ρ xs.length hi with
      | some l, some h => guard (Nat.beq z' z && Nat.ble l h && Nat.ble h xs.length) 52 (match mx with
        | none => .ok (.sl (match t, hi with | .full, none => .full | _, _ => .no) z ((xs.take h).drop l))
        | some m => match ρ m, hi with
          | .int _ (.ofNat m), some _ => guard (Nat.beq m h) 53 (.ok (.sl .full z ((xs.take h).drop l)))
          | _, _ => .error [54])
      | _, _ => .error [55]
    | _ => .error [56]
  | .slcs x lo hi => match ρ x with
    | .str s => match nlov ρ lo, nhiv ρ s.size hi with
      | some l, some h => guard (Nat.ble l h && Nat.ble h s.size) 57 (.ok (.str (s.extract l h)))
      | _, _ => .error [58]
    | _ => .error [59]
  | .bld zero parts => guard ((parts.all fun p => Nat.beq (ρ p.2.2).cells.length p.2.1 && (ρ p.2.2).okc) && parts.all fun p => Nat.ble (p.1 + p.2.1) zero.length) 60 (.ok (.agg (fillv zero (parts.map fun p => (p.1, ρ p.2.2)))))
  | .bsl z parts => guard (parts.all fun p => Nat.beq (ρ p).cells.length z && (ρ p).okc) 61 (.ok (.sl .full z (parts.map fun p => (ρ p).cells)))
  | .box x => guard (ρ x).okc 62 (.ok (.cref (ρ x).cells))
  | .call f args => call f (args.map ρ)
  | .mm mx x rest => guard ((ρ x).isInt && rest.all fun y => (ρ y).isInt) 63 (.ok (rest.foldl (fun v y => mm2 mx v (ρ y)) (ρ x)))
  | .mkf f caps => .ok (.fn f (caps.map ρ))
  | .mki t x => .ok (.iface t (ρ x))
  | .lk x k => match ρ x, ρ k with
    | .map i, .str s => match ob i with
      | some (.map ks m) => .ok (.int .i64 (m s))
      | _ => .error [64]
    | .cmap _ m, .str s => .ok (.int .i64 (m s))
    | _, _ => .error [65]
  | .lnd f args => match lends ob (args.map ρ) with
    | some a => match call f a with
      | .ok r => guard r.flat 200 (.ok r)
      | .error e => .error e
    | none => .error [201]
  | .cvf x => match ρ x with
    | .int _ n => .ok (.flt (FloatKind.f64.nearest n))
    | _ => .error [66]
  | .cpx x y => match ρ x, ρ y with
    | .flt a, .flt b => .ok (.cpx a b)
    | _, _ => .error [67]
  | .mkz z by_ zero n => match ρ n with
    | .int _ (.ofNat m) => guard (Nat.ble (m * by_) 140737488355328) 68 (.ok (.sl .no z (List.replicate m zero)))
    | _ => .error [69]
  | .slr z x hi => match ρ x, ρ hi with
    | .row i n z' o l, .int _ (.ofNat h) => match ob i with
      | some (.row z'' xs) => guard (Nat.beq z'' z' && Nat.beq z' z && Nat.beq xs.length n && Nat.ble h l) 170 (.ok (.row i n z o h))
      | _ => .error [171]
    | _, _ => .error [172]

theorem rq_ok {P : Program} {ρ ρ' : Opd → V} {ob ob' : Obs} {call : FuncId → List V → X V} (hρ : ∀ x, ρ' x = ρ x) (hob : ∀ i, ob' i = ob i) (hc : ∀ f args r, call f args = .ok r → PSpec P f args r) {op : AOp} {v : V} {K : V → Prop} (h : rq ρ ob call op = .ok v) (hk : K v) : aq P ρ' ob' K op := by
  have e1 : ρ' = ρ := funext hρ
  have e2 : ob' = ob := funext hob
  subst e1 e2
  cases op with
  | mv x => simp only [rq] at h; cases h; exact hk
  | pick c x y =>
    simp only [rq] at h; simp only [aq]
    split at h
    · rename_i t ht
      simp only [ht]
      cases h
      cases t
      · exact ⟨fun h => (Bool.false_ne_true h).elim, fun _ => hk⟩
      · exact ⟨fun _ => hk, fun h => (Bool.false_ne_true h.symm).elim⟩
    · cases h
  | ld n g x =>
    simp only [rq] at h; simp only [aq]
    split at h
    · rename_i hx; simp only [hx]
      obtain ⟨h1, h2⟩ := guard_ok h
      cases h2
      exact ⟨Nat.le_of_ble_eq_true h1, hk⟩
    · rename_i hx; simp only [hx]
      split at h
      · rename_i ho
        obtain ⟨h1, h2⟩ := guard_ok h
        cases h2
        exact ⟨_, ho, Nat.le_of_ble_eq_true h1, hk⟩
      · cases h
    · rename_i hx; simp only [hx]
      split at h
      · rename_i ho
        split at h
        · rename_i hg
          obtain ⟨h1, h2⟩ := guard_ok h
          cases h2
          simp only [Bool.and_eq_true, Nat.beq_eq] at h1
          obtain ⟨⟨h3, h4⟩, h5⟩ := h1
          subst h3
          exact ⟨_, _, ho, h4, hg, Nat.le_of_ble_eq_true h5, hk⟩
        · cases h
      · cases h
    · cases h
  | fa off x =>
    simp only [rq] at h; simp only [aq]
    split at h
    · rename_i hx; simp only [hx]
      obtain ⟨h1, h2⟩ := guard_ok h
      cases h2
      exact ⟨Nat.le_of_ble_eq_true h1, hk⟩
    · rename_i hx; simp only [hx]; cases h; exact hk
    · rename_i hx; simp only [hx]; cases h; exact hk
    · cases h
  | fld off n g x =>
    simp only [rq] at h; simp only [aq]
    split at h
    · rename_i hx; simp only [hx]
      obtain ⟨h1, h2⟩ := guard_ok h
      cases h2
      exact ⟨Nat.le_of_ble_eq_true h1, hk⟩
    · cases h
  | chk x =>
    simp only [rq] at h; simp only [aq]
    split at h <;> rename_i hx <;> cases h <;> simp only [hx] <;> exact hk
  | bin op tk x y => exact rbin_ok h hk
  | not x =>
    simp only [rq] at h; simp only [aq]
    split at h <;> rename_i hx <;> cases h <;> simp only [hx] <;> exact hk
  | neg x =>
    simp only [rq] at h; simp only [aq]
    split at h <;> rename_i hx <;> cases h <;> simp only [hx] <;> exact hk
  | com x =>
    simp only [rq] at h; simp only [aq]
    split at h <;> rename_i hx <;> cases h <;> simp only [hx] <;> exact hk
  | cvi k x =>
    simp only [rq] at h; simp only [aq]
    split at h <;> rename_i hx <;> cases h <;> simp only [hx] <;> exact hk
  | b2s x =>
    simp only [rq] at h; simp only [aq]
    split at h
    · rename_i hx; simp only [hx]
      split at h
      · rename_i hb
        cases h
        exact ⟨_, toBs_ok hb, hk⟩
      · cases h
    · cases h
  | ext x i =>
    simp only [rq] at h; simp only [aq]
    split at h
    · rename_i hx; simp only [hx]
      split at h
      · rename_i hb
        cases h
        exact ⟨_, hb, hk⟩
      · cases h
    · cases h
  | len x =>
    simp only [rq] at h; simp only [aq]
    split at h
    · rename_i hx; simp only [hx]; cases h; exact hk
    · rename_i hx; simp only [hx]
      split at h
      · rename_i ho
        obtain ⟨h1, h2⟩ := guard_ok h
        cases h2
        simp only [Bool.and_eq_true, Nat.beq_eq] at h1
        obtain ⟨h3, h4⟩ := h1
        subst h3
        exact ⟨⟨_, ho, h4⟩, hk⟩
      · cases h
    · cases h
  | lens x =>
    simp only [rq] at h; simp only [aq]
    split at h <;> rename_i hx <;> cases h <;> simp only [hx] <;> exact hk
  | ix z x i =>
    simp only [rq] at h; simp only [aq]
    split at h
    · rename_i hx hi
      split at h
      · rename_i hg
        obtain ⟨h1, h2⟩ := guard_ok h
        cases h2
        simp only [hx, hi]
        exact ⟨by simpa using h1, Int.natCast_nonneg _, _, hg, hk⟩
      · cases h
    · rename_i hx hi
      split at h
      · rename_i ho
        obtain ⟨h1, h2⟩ := guard_ok h
        cases h2
        simp only [Bool.and_eq_true, Nat.beq_eq] at h1
        obtain ⟨⟨⟨h3, h4⟩, h5⟩, h6⟩ := h1
        subst h3 h4
        simp only [hx, hi]
        have := Nat.le_of_ble_eq_true h6
        exact ⟨⟨_, ho, h5⟩, by simp, Int.natCast_nonneg _, by simp only [Int.ofNat_eq_natCast]; omega, hk⟩
      · cases h
    · cases h
  | ixs x i =>
    simp only [rq] at h; simp only [aq]
    split at h
    · rename_i hx hi
      split at h
      · rename_i hg
        cases h
        simp only [hx, hi]
        exact ⟨Int.natCast_nonneg _, _, hg, hk⟩
      · cases h
    · cases h
  | slc z x lo hi mx =>
    simp only [rq] at h; simp only [aq]
    split at h
    · rename_i t z' xs hx
      simp only [hx]
      split at h
      · rename_i l hh hl hh2
        obtain ⟨h1, h2⟩ := guard_ok h
        simp only [Bool.and_eq_true, Nat.beq_eq] at h1
        obtain ⟨⟨h3, h4⟩, h5⟩ := h1
        have h4 := Nat.le_of_ble_eq_true h4
        have h5 := Nat.le_of_ble_eq_true h5
        refine ⟨h3, _, _, nlov_ok hl, nhiv_ok hh2, by omega, by omega, by omega, ?_⟩
        cases mx with
        | none => simp only at h2; cases h2; cases t <;> cases hi <;> simpa using hk
        | some m =>
          simp only at h2
          split at h2
          · rename_i hm
            obtain ⟨h6, h7⟩ := guard_ok h2
            cases h7
            simp only [hm]
            simp only [Nat.beq_eq] at h6
            subst h6
            exact ⟨⟨rfl, by simp⟩, by simpa using hk⟩
          · cases h2
      · cases h
    · cases h
  | slcs x lo hi =>
    simp only [rq] at h; simp only [aq]
    split at h
    · rename_i hx; simp only [hx]
      split at h
      · rename_i hl hh2
        obtain ⟨h1, h2⟩ := guard_ok h
        simp only [Bool.and_eq_true] at h1
        obtain ⟨h4, h5⟩ := h1
        have h4 := Nat.le_of_ble_eq_true h4
        have h5 := Nat.le_of_ble_eq_true h5
        cases h2
        exact ⟨_, _, nlov_ok hl, nhiv_ok hh2, by omega, by omega, by omega, by simpa using hk⟩
      · cases h
    · cases h
  | bld zero parts =>
    simp only [rq] at h; simp only [aq]
    obtain ⟨h1, h2⟩ := guard_ok h
    cases h2
    simp only [Bool.and_eq_true, List.all_eq_true, Nat.beq_eq] at h1
    exact ⟨h1.1, fun p hp => Nat.le_of_ble_eq_true (h1.2 p hp), hk⟩
  | bsl z parts =>
    simp only [rq] at h; simp only [aq]
    obtain ⟨h1, h2⟩ := guard_ok h
    cases h2
    simp only [Bool.and_eq_true, List.all_eq_true, Nat.beq_eq] at h1
    exact ⟨h1, hk⟩
  | box x =>
    simp only [rq] at h; simp only [aq]
    obtain ⟨h1, h2⟩ := guard_ok h
    cases h2
    exact ⟨h1, hk⟩
  | call f args =>
    simp only [rq] at h; simp only [aq]
    exact ⟨_, hc _ _ _ h _, hk⟩
  | mm mx x rest =>
    simp only [rq] at h; simp only [aq]
    obtain ⟨h1, h2⟩ := guard_ok h
    cases h2
    simp only [Bool.and_eq_true] at h1
    exact ⟨h1.1, h1.2, hk⟩
  | mkf f caps => simp only [rq] at h; cases h; exact hk
  | mki t x => simp only [rq] at h; cases h; exact hk
  | lk x k =>
    simp only [rq] at h; simp only [aq]
    split at h
    · rename_i hx hk2
      split at h
      · rename_i ho
        cases h
        simp only [hx, hk2]
        exact ⟨_, _, ho, hk⟩
      · cases h
    · rename_i hx hk2
      cases h
      simp only [hx, hk2]
      exact hk
    · cases h
  | lnd f args =>
    simp only [rq] at h; simp only [aq]
    split at h
    · rename_i hl
      split at h
      · rename_i hcall
        obtain ⟨h1, h2⟩ := guard_ok h
        cases h2
        exact ⟨_, _, hl, hc _ _ _ hcall, h1, hk⟩
      · cases h
    · cases h
  | cvf x =>
    simp only [rq] at h; simp only [aq]
    split at h <;> rename_i hx <;> cases h <;> simp only [hx] <;> exact hk
  | cpx x y =>
    simp only [rq] at h; simp only [aq]
    split at h
    · rename_i hx hy
      cases h
      simp only [hx, hy]
      exact hk
    · cases h
  | mkz z b zero n =>
    simp only [rq] at h; simp only [aq]
    split at h
    · rename_i hx
      simp only [hx]
      obtain ⟨h1, h2⟩ := guard_ok h
      cases h2
      exact ⟨Int.natCast_nonneg _, Nat.le_of_ble_eq_true h1, hk⟩
    · cases h
  | slr z x hi =>
    simp only [rq] at h; simp only [aq]
    split at h
    · rename_i hx hh
      split at h
      · rename_i ho
        obtain ⟨h1, h2⟩ := guard_ok h
        cases h2
        simp only [Bool.and_eq_true, Nat.beq_eq] at h1
        obtain ⟨⟨⟨h3, h4⟩, h5⟩, h6⟩ := h1
        subst h3 h4
        simp only [hx, hh]
        have := Nat.le_of_ble_eq_true h6
        exact ⟨⟨_, ho, h5⟩, by simp, Int.natCast_nonneg _, by simp only [Int.ofNat_eq_natCast]; omega, hk⟩
      · cases h
    · cases h
end Go.Proofs.Fathom
