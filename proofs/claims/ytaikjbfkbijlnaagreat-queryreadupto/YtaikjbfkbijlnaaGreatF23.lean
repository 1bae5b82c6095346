/- A part of the proof of 'Rows.QueryReadUptoSaid': for every text and every seeds (of bulk at most 1048576 together) fathomlaw19.QueryRead returns true and its arguments read afterwards as before. -/
import Derived.Test.YtaikjbfkbijlnaaGreatF22
set_option linter.unusedVariables false
set_option linter.unusedSimpArgs false
namespace Go.Proofs.Fathom
open Go

def keysIn (l : List Nat) (L : List (Nat × AObj)) : Bool := L.all fun p => l.any fun k => Nat.beq k p.1
def nodupK : List (Nat × AObj) → Bool
  | [] => true
  | p :: r => (r.all fun q => !Nat.beq p.1 q.1) && nodupK r
theorem obl_mem : ∀ {L : List (Nat × AObj)}, nodupK L = true → ∀ p ∈ L, obl L p.1 = some p.2
  | [], _, p, hp => by cases hp
  | q :: r, h, p, hp => by
    simp only [nodupK, Bool.and_eq_true, List.all_eq_true] at h
    obtain ⟨h1, h2⟩ := h
    rcases List.mem_cons.1 hp with rfl | hp
    · exact upd_same _ _ _
    · have := h1 p hp
      have hne : p.1 ≠ q.1 := fun e => by
        rw [e] at this
        simp at this
      show upd _ _ _ _ = _
      rw [upd_ne _ _ hne]
      exact obl_mem h2 p hp
theorem ov_all {L L' : List (Nat × AObj)} (h : ∀ p ∈ L, ∃ o, (p.1, o) ∈ L') : Obs.ov (obl L) L' = obl L' := by
  funext i
  by_cases hm : ∃ o, (i, o) ∈ L'
  · exact (Obs.ov_mem hm).1
  · rw [Obs.ov_get fun o ho => hm ⟨o, ho⟩]
    have h1 : obl L' i = none := Obs.ov_get fun o ho => hm ⟨o, ho⟩
    rw [h1]
    refine Obs.ov_get fun o ho => ?_
    obtain ⟨o', h2⟩ := h _ ho
    exact hm ⟨o', h2⟩

structure Cl where
  p : FuncId → List V → X V
  e : FuncId → List V → List (Nat × AObj) → Nat → X (V × List (Nat × AObj) × Nat)
structure ClOk (P : Program) (c : Cl) : Prop where
  p : ∀ f args r, c.p f args = .ok r → PSpec P f args r
  e : ∀ f args L n r L' n', c.e f args L n = .ok (r, L', n') → CSpec P f args L n r L' n' ∧ nodupK L = true ∧ (∀ p ∈ L, ∃ o, (p.1, o) ∈ L') ∧ (∀ p ∈ L', p.1 < n' ∧ ((∃ o, (p.1, o) ∈ L) ∨ n ≤ p.1)) ∧ n ≤ n'

def mapv (s : ByteArray) (n : Int) (mm : ByteArray → Int) : ByteArray → Int := fun x => bif byeq x s then n else mm x
theorem mapv_eq (s : ByteArray) (n : Int) (mm : ByteArray → Int) : mapv s n mm = fun x => if x = s then n else mm x := by
  funext x
  unfold mapv
  rw [byeq_eq]
  by_cases h : x = s <;> simp [h]
def kadd (ks : List ByteArray) (s : ByteArray) : List ByteArray := bif ks.any (fun k => byeq k s) then ks else ks ++ [s]
theorem kadd_eq (ks : List ByteArray) (s : ByteArray) : kadd ks s = if ks.any (fun k => decide (k = s)) then ks else ks ++ [s] := by
  unfold kadd
  simp only [byeq_eq]
  cases ks.any (fun k => decide (k = s)) <;> simp

def re (c : Cl) (s : RS) : EOp → X (RS × V)
  | .alloc zero => .ok ({ s with ob := (s.nx, .cells zero) :: s.ob, nx := s.nx + 1 }, .ptr s.nx 0)
  | .boxO x => guard (s.ev x).okc 70 (.ok ({ s with ob := (s.nx, .cells (s.ev x).cells) :: s.ob, nx := s.nx + 1 }, .ptr s.nx 0))
  | .st n p x => guard ((s.ev x).okc && Nat.beq (s.ev x).cells.length n) 71 (match s.ev p with
    | .ptr i off => match lko s.ob i with
      | some (.cells cs) => guard (Nat.ble (off + n) cs.length) 72 (.ok ({ s with ob := oset s.ob i (.cells (splice cs off (s.ev x).cells)) }, .junk))
      | _ => .error [73]
    | .rptr i m z j f => match lko s.ob i with
      | some (.row z' xs) => match xs[j]? with
        | some d => guard (Nat.beq z' z && Nat.beq xs.length m && Nat.ble (f + n) d.length) 74 (.ok ({ s with ob := oset s.ob i (.row z (xs.set j (splice d f (s.ev x).cells))) }, .junk))
        | none => .error [75]
      | _ => .error [76]
    | _ => .error [77])
  | .app z by_ x y => match s.ev x, s.ev y with
    | .sl tk z' xs, .sl _ z'' ys => guard (Nat.beq z' z && (Nat.beq z'' z || ys.isEmpty) && Nat.ble ((xs.length + ys.length) * by_) 140737488355328) 78 (match tk with
      | .tip i => match lko s.ob i with
        | some (.tip z2 m) => guard (Nat.beq z2 z && Nat.beq m xs.length) 79 (.ok ({ s with ob := oset s.ob i (.tip z (xs.length + ys.length)) }, .sl (.tip i) z (xs ++ ys)))
        | _ => .error [80]
      | .full => .ok ({ s with ob := (s.nx, .tip z (xs.length + ys.length)) :: s.ob, nx := s.nx + 1 }, .sl (.tip s.nx) z (xs ++ ys))
      | .no => .error [81])
    | _, _ => .error [82]
  | .appr z by_ x y => match s.ev x, s.ev y with
    | .row i n z' o l, .sl _ z'' ys => match lko s.ob i with
      | some (.row z2 xs) => guard (Nat.beq z2 z && Nat.beq z' z && (Nat.beq z'' z || ys.isEmpty) && Nat.beq o 0 && Nat.beq l n && Nat.ble ((n + ys.length) * by_) 140737488355328 && Nat.beq xs.length n) 83
          (.ok ({ s with ob := oset s.ob i (.row z (xs ++ ys)) }, .row i (n + ys.length) z 0 (n + ys.length)))
      | _ => .error [84]
    | _, _ => .error [85]
  | .appn z by_ x y => match s.ev x, s.ev y with
    | .sl .full _ [], .sl _ z'' ys => guard ((Nat.beq z'' z || ys.isEmpty) && Nat.ble (ys.length * by_) 140737488355328) 180
          (.ok ({ s with ob := (s.nx, .row z ys) :: s.ob, nx := s.nx + 1 }, .row s.nx ys.length z 0 ys.length))
    | _, _ => .error [181]
  | .mks z by_ zero n => match s.ev n with
    | .int _ (.ofNat m) => guard (Nat.ble (m * by_) 140737488355328) 86 (.ok ({ s with ob := (s.nx, .row z (List.replicate m zero)) :: s.ob, nx := s.nx + 1 }, .row s.nx m z 0 m))
    | _ => .error [87]
  | .mkm => .ok ({ s with ob := (s.nx, .map [] fun _ => 0) :: s.ob, nx := s.nx + 1 }, .map s.nx)
  | .updm m k v => match s.ev m, s.ev k, s.ev v with
    | .map i, .str q, .int .i64 n => match lko s.ob i with
      | some (.map ks mm) => .ok ({ s with ob := oset s.ob i (.map (kadd ks q) (mapv q n mm)) }, .junk)
      | _ => .error [88]
    | _, _, _ => .error [89]
  | .call x args => match s.ev x with
    | .fn f caps => match c.e f (args.map s.ev ++ caps) s.ob s.nx with
      | .ok (r, L', n') => .ok ({ s with ob := L', nx := n' }, r)
      | .error e => .error (f :: 90 :: e)
    | _ => .error [91]

theorem re_ok {P : Program} {c : Cl} (hc : ClOk P c) {nt bs : Nat} {s s' : RS} {op : EOp} {v : V} {K : St → V → Prop} (h : re c s op = .ok (s', v)) (hk : K (s'.st nt bs) v) : ae P (s.st nt bs) K op := by
  have hev : ∀ x, (s.st nt bs).ev x = s.ev x := RS.ev_eq
  have hob : ∀ i, (s.st nt bs).ob i = lko s.ob i := fun i => (lko_eq _ _).symm
  cases op with
  | alloc zero => simp only [re] at h; cases h; exact hk
  | boxO x =>
    simp only [re] at h
    obtain ⟨h1, h2⟩ := guard_ok h
    cases h2
    simp only [ae, hev]
    exact ⟨h1, hk⟩
  | st n p x =>
    simp only [re] at h
    obtain ⟨h1, h2⟩ := guard_ok h
    simp only [Bool.and_eq_true, Nat.beq_eq] at h1
    simp only [ae, hev]
    refine ⟨h1.1, h1.2, ?_⟩
    split at h2
    · rename_i hp
      simp only [hp, hob]
      split at h2
      · rename_i ho
        obtain ⟨h3, h4⟩ := guard_ok h2
        cases h4
        refine ⟨_, ho, Nat.le_of_ble_eq_true h3, ?_⟩
        simp only [RS.st, oset_eq] at hk
        exact hk
      · cases h2
    · rename_i hp
      simp only [hp, hob]
      split at h2
      · rename_i ho
        split at h2
        · rename_i hg
          obtain ⟨h3, h4⟩ := guard_ok h2
          cases h4
          simp only [Bool.and_eq_true, Nat.beq_eq] at h3
          obtain ⟨⟨h5, h6⟩, h7⟩ := h3
          subst h5
          refine ⟨_, _, ho, h6, hg, Nat.le_of_ble_eq_true h7, ?_⟩
          simp only [RS.st, oset_eq] at hk
          exact hk
        · cases h2
      · cases h2
    · cases h2
  | app z by_ x y =>
    simp only [re] at h
    simp only [ae, hev]
    split at h
    · rename_i hx hy
      simp only [hx, hy]
      obtain ⟨h1, h2⟩ := guard_ok h
      simp only [Bool.and_eq_true, Bool.or_eq_true, Nat.beq_eq, List.isEmpty_iff] at h1
      obtain ⟨⟨h3, h4⟩, h5⟩ := h1
      refine ⟨h3, h4, Nat.le_of_ble_eq_true h5, ?_⟩
      split at h2
      · split at h2
        · rename_i ho
          obtain ⟨h6, h7⟩ := guard_ok h2
          cases h7
          simp only [Bool.and_eq_true, Nat.beq_eq] at h6
          obtain ⟨rfl, rfl⟩ := h6
          simp only [hob]
          refine ⟨ho, ?_⟩
          simp only [RS.st, oset_eq] at hk
          exact hk
        · cases h2
      · cases h2
        exact hk
      · cases h2
    · cases h
  | appr z by_ x y =>
    simp only [re] at h
    simp only [ae, hev]
    split at h
    · rename_i hx hy
      simp only [hx, hy]
      split at h
      · rename_i ho
        obtain ⟨h1, h2⟩ := guard_ok h
        cases h2
        simp only [Bool.and_eq_true, Bool.or_eq_true, Nat.beq_eq, List.isEmpty_iff] at h1
        obtain ⟨⟨⟨⟨⟨⟨h3, h4⟩, h5⟩, h6⟩, h7⟩, h8⟩, h9⟩ := h1
        subst h3
        refine ⟨h4, h5, h6, h7, Nat.le_of_ble_eq_true h8, _, by rw [hob]; exact ho, h9, ?_⟩
        simp only [RS.st, oset_eq] at hk
        exact hk
      · cases h
    · cases h
  | appn z by_ x y =>
    simp only [re] at h
    simp only [ae, hev]
    split at h
    · rename_i hx hy
      simp only [hx, hy]
      obtain ⟨h1, h2⟩ := guard_ok h
      cases h2
      simp only [Bool.and_eq_true, Bool.or_eq_true, Nat.beq_eq, List.isEmpty_iff] at h1
      exact ⟨h1.1, Nat.le_of_ble_eq_true h1.2, hk⟩
    · cases h
  | mks z by_ zero n =>
    simp only [re] at h
    simp only [ae, hev]
    split at h
    · rename_i hx
      simp only [hx]
      obtain ⟨h1, h2⟩ := guard_ok h
      cases h2
      exact ⟨Int.natCast_nonneg _, Nat.le_of_ble_eq_true h1, hk⟩
    · cases h
  | mkm => simp only [re] at h; cases h; exact hk
  | updm m k v =>
    simp only [re] at h
    simp only [ae, hev]
    split at h
    · rename_i hx hy hz
      simp only [hx, hy, hz]
      split at h
      · rename_i ho
        cases h
        refine ⟨trivial, _, _, by rw [hob]; exact ho, ?_⟩
        simp only [RS.st, oset_eq, mapv_eq, kadd_eq] at hk
        exact hk
      · cases h
    · cases h
  | call x args =>
    simp only [re] at h
    simp only [ae, hev]
    split at h
    · rename_i hx
      simp only [hx]
      split at h
      · rename_i hr
        cases h
        obtain ⟨h1, h2, h3, h4, h5⟩ := hc.e _ _ _ _ _ _ _ hr
        have he : args.map (s.st nt bs).ev = args.map s.ev := List.map_congr_left fun x _ => hev x
        refine ⟨s.ob, _, (he.symm ▸ h1 : CSpec _ _ _ _ _ _ _ _).e, fun p hp => obl_mem h2 p hp, ?_⟩
        rintro _ _ _ ⟨rfl, rfl, rfl⟩
        refine ⟨h3, h4, h5, ?_⟩
        have := ov_all h3
        show K { s.st nt bs with ob := Obs.ov (obl s.ob) _, nx := _ } _
        rw [this]
        exact hk
      · cases h
    · cases h

def rstep (c : Cl) (blind : Bool) (o : AOper) (s : RS) : X RS := match o.op with
  | .q op => match rq s.ev (bif blind then fun _ => none else lko s.ob) c.p op with
    | .ok v => .ok (s.put o.d v)
    | .error e => .error ((match o.d with | some d => d | none => 999) :: e)
  | .e op => match re c s op with
    | .ok (s', v) => .ok (s'.put o.d v)
    | .error e => .error ((match o.d with | some d => d | none => 999) :: e)
def roper (c : Cl) (blind : Bool) (o : AOper) (s : RS) : X RS := match o.g with
  | none => rstep c blind o s
  | some (t, want) => match lkv s.sl t with
    | .bool b => bif Bool.beq' b want then rstep c blind o s else .ok (s.put o.d (.tup []))
    | .tup [] => .ok (s.put o.d (.tup []))
    | _ => .error [t, 100]
where Bool.beq' : Bool → Bool → Bool
  | true, x => x
  | false, x => !x
def rops (c : Cl) (blind : Bool) : List AOper → RS → X RS
  | [], s => .ok s
  | o :: r, s => match roper c blind o s with
    | .ok s' => rops c blind r s'
    | .error e => .error e
theorem beq'_t {b w : Bool} (h : roper.Bool.beq' b w = true) : b = w := by cases b <;> cases w <;> simp_all [roper.Bool.beq']
theorem beq'_f {b w : Bool} (h : roper.Bool.beq' b w = false) : b = !w := by cases b <;> cases w <;> simp_all [roper.Bool.beq']
theorem rstep_ok {P : Program} {c : Cl} (hc : ClOk P c) {nt bs : Nat} {o : AOper} {s s' : RS} {K : St → Prop} (h : rstep c false o s = .ok s') (hk : K (s'.st nt bs)) : astep P o (s.st nt bs) K := by
  unfold rstep at h
  unfold astep
  split at h
  · rename_i ho
    split at h
    · rename_i hq
      cases h
      simp only [ho]
      refine rq_ok RS.ev_eq (fun i => (lko_eq _ _).symm) hc.p hq ?_
      rw [← RS.put_eq]
      exact hk
    · cases h
  · rename_i ho
    split at h
    · rename_i hq
      cases h
      simp only [ho]
      refine re_ok hc hq ?_
      rw [← RS.put_eq]
      exact hk
    · cases h
theorem rstepB_ok {P : Program} {c : Cl} (hc : ClOk P c) {nt bs : Nat} {o : AOper} {s s' : RS} {K : St → Prop} (h : rstep c true o s = .ok s') (hk : K (s'.st nt bs)) : astepB P o (s.st nt bs) K := by
  unfold rstep at h
  unfold astepB
  split at h
  · rename_i ho
    split at h
    · rename_i hq
      cases h
      simp only [ho]
      refine rq_ok RS.ev_eq (fun i => rfl) hc.p hq ?_
      rw [← RS.put_eq]
      exact hk
    · cases h
  · rename_i ho
    split at h
    · rename_i hq
      cases h
      simp only [ho]
      refine re_ok hc hq ?_
      rw [← RS.put_eq]
      exact hk
    · cases h
theorem roper_ok {P : Program} {c : Cl} (hc : ClOk P c) {nt bs : Nat} {o : AOper} {s s' : RS} {K : St → Prop} (h : roper c false o s = .ok s') (hk : K (s'.st nt bs)) : aoper P o (s.st nt bs) K := by
  unfold roper at h
  unfold aoper
  split at h
  · rename_i ho
    simp only [ho]
    exact rstep_ok hc h hk
  · rename_i t w ho
    simp only [ho]
    have hs : (s.st nt bs).sl t = lkv s.sl t := (lkv_eq _ _).symm
    split at h
    · rename_i b hb
      simp only [hs, hb]
      cases hq : roper.Bool.beq' b w
      · rw [hq] at h
        cases h
        rw [RS.put_eq] at hk
        have := beq'_f hq
        exact ⟨fun h => (by rw [this] at h; revert h; cases w <;> simp), fun _ => hk⟩
      · rw [hq] at h
        have := beq'_t hq
        exact ⟨fun _ => rstep_ok hc h hk, fun h => (by rw [this] at h; revert h; cases w <;> simp)⟩
    · rename_i hb
      simp only [hs, hb]
      cases h
      rw [RS.put_eq] at hk
      exact hk
    · cases h
theorem roperB_ok {P : Program} {c : Cl} (hc : ClOk P c) {nt bs : Nat} {o : AOper} {s s' : RS} {K : St → Prop} (h : roper c true o s = .ok s') (hk : K (s'.st nt bs)) : aoperB P o (s.st nt bs) K := by
  unfold roper at h
  unfold aoperB
  split at h
  · rename_i ho
    simp only [ho]
    exact rstepB_ok hc h hk
  · rename_i t w ho
    simp only [ho]
    have hs : (s.st nt bs).sl t = lkv s.sl t := (lkv_eq _ _).symm
    split at h
    · rename_i b hb
      simp only [hs, hb]
      cases hq : roper.Bool.beq' b w
      · rw [hq] at h
        cases h
        rw [RS.put_eq] at hk
        have := beq'_f hq
        exact ⟨fun h => (by rw [this] at h; revert h; cases w <;> simp), fun _ => hk⟩
      · rw [hq] at h
        have := beq'_t hq
        exact ⟨fun _ => rstepB_ok hc h hk, fun h => (by rw [this] at h; revert h; cases w <;> simp)⟩
    · rename_i hb
      simp only [hs, hb]
      cases h
      rw [RS.put_eq] at hk
      exact hk
    · cases h
theorem rops_ok {P : Program} {c : Cl} (hc : ClOk P c) {nt bs : Nat} {K : St → Prop} {s' : RS} (hk : K (s'.st nt bs)) : ∀ (l : List AOper) (s : RS), rops c false l s = .ok s' → aops P l (s.st nt bs) K
  | [], s, h => by simp only [rops] at h; cases h; exact hk
  | o :: r, s, h => by
    simp only [rops] at h
    split at h
    · rename_i s1 h1
      exact roper_ok hc (K := fun S' => aops P r S' K) h1 (rops_ok hc hk r s1 h)
    · cases h
theorem ropsB_ok {P : Program} {c : Cl} (hc : ClOk P c) {nt bs : Nat} {K : St → Prop} {s' : RS} (hk : K (s'.st nt bs)) : ∀ (l : List AOper) (s : RS), rops c true l s = .ok s' → aopsB P l (s.st nt bs) K
  | [], s, h => by simp only [rops] at h; cases h; exact hk
  | o :: r, s, h => by
    simp only [rops] at h
    split at h
    · rename_i s1 h1
      exact roperB_ok hc (K := fun S' => aopsB P r S' K) h1 (ropsB_ok hc hk r s1 h)
    · cases h
def ropsM (c : Cl) : List (AOper × Bool) → RS → X RS
  | [], s => .ok s
  | (o, b) :: r, s => match roper c (!b) o s with
    | .ok s' => ropsM c r s'
    | .error e => .error e
theorem ropsM_ok {P : Program} {c : Cl} (hc : ClOk P c) {nt bs : Nat} {K : St → Prop} {s' : RS} (hk : K (s'.st nt bs)) : ∀ (l : List (AOper × Bool)) (s : RS), ropsM c l s = .ok s' → aopsM P l (s.st nt bs) K
  | [], s, h => by simp only [ropsM] at h; cases h; exact hk
  | (o, true) :: r, s, h => by
    simp only [ropsM] at h
    split at h
    · rename_i s1 h1
      exact roper_ok hc (K := fun S' => aopsM P r S' K) h1 (ropsM_ok hc hk r s1 h)
    · cases h
  | (o, false) :: r, s, h => by
    simp only [ropsM] at h
    split at h
    · rename_i s1 h1
      exact roperB_ok hc (K := fun S' => aopsM P r S' K) h1 (ropsM_ok hc hk r s1 h)
    · cases h
end Go.Proofs.Fathom
