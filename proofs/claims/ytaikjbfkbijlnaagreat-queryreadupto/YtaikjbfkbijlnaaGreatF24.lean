/- A part of the proof of 'Rows.QueryReadUptoSaid': for every text and every seeds (of bulk at most 1048576 together) fathomlaw19.QueryRead returns true and its arguments read afterwards as before. -/
import Derived.Test.YtaikjbfkbijlnaaGreatF23
import Derived.Test.YtaikjbfkbijlnaaGreatF16
set_option linter.unusedVariables false
set_option linter.unusedSimpArgs false
namespace Go.Proofs.Fathom
open Go

mutual
/-- Names are forgotten. -/
def V.cl : V → V
  | .agg cs => .agg (cls cs)
  | .tup cs => .tup (cls cs)
  | .sl _ z xs => .sl .no z (clss xs)
  | .row _ _ _ _ _ => .junk
  | .rptr _ _ _ _ _ => .junk
  | .cref cs => .cref (cls cs)
  | .ptr _ _ => .junk
  | .fn f cs => .fn f (cls cs)
  | .map _ => .junk
  | .iface t x => .iface t (V.cl x)
  | v => v
def cls : List V → List V
  | [] => []
  | c :: cs => V.cl c :: cls cs
def clss : List (List V) → List (List V)
  | [] => []
  | c :: cs => cls c :: clss cs
end
theorem clss_len : ∀ (l : List (List V)), (clss l).length = l.length
  | [] => rfl
  | _ :: l => by simp [clss, clss_len l]
theorem cls_len : ∀ (l : List V), (cls l).length = l.length
  | [] => rfl
  | _ :: l => by simp [cls, cls_len l]
mutual
theorem VR.cl {E : Env} : (c : V) → (v : Value) → VR E c v → VR E c.cl v
  | .int _ _, _, hv => hv
  | .bool _, _, hv => hv
  | .str _, _, hv => hv
  | .flt _, _, hv => hv
  | .cpx _ _, _, hv => hv
  | .agg cs, _, hv => by
    simp only [VR, V.cl] at hv ⊢
    obtain ⟨vs, e, h1, hs⟩ := hv
    exact ⟨vs, e, h1, VRs.cl cs _ hs⟩
  | .tup cs, _, hv => by
    simp only [VR, V.cl] at hv ⊢
    obtain ⟨vs, e, hs⟩ := hv
    exact ⟨vs, e, VRs.cl cs _ hs⟩
  | .sl t z xs, _, hv => by
    simp only [VR, V.cl] at hv ⊢
    obtain ⟨a, len, cap, e, hl, hc, hx, ht⟩ := hv
    refine ⟨a, len, cap, e, by rw [clss_len]; exact hl, hc, fun hne => ?_, trivial⟩
    obtain ⟨b, o, ha, he⟩ := hx fun e => hne (by rw [e]; rfl)
    exact ⟨b, o, ha, ElemsAt.cl b z xs o he⟩
  | .row i _ _ _ _, _, hv => by simp only [VR, V.cl]
  | .rptr i _ _ _ _, _, hv => by simp only [VR, V.cl]
  | .cref cs, _, hv => by
    simp only [VR, V.cl] at hv ⊢
    obtain ⟨b, o, e, hc⟩ := hv
    exact ⟨b, o, e, CellsAt.cl b cs o hc⟩
  | .ptr i off, _, hv => by simp only [VR, V.cl]
  | .nilp, _, hv => hv
  | .fn _ cs, _, hv => by
    simp only [VR, V.cl] at hv ⊢
    obtain ⟨vs, e, hs⟩ := hv
    exact ⟨vs, e, VRs.cl cs _ hs⟩
  | .nilf, _, hv => hv
  | .map i, _, hv => by simp only [VR, V.cl]
  | .nilm, _, hv => hv
  | .cmap _ _, _, hv => hv
  | .iface _ x, _, hv => by
    simp only [VR, V.cl] at hv ⊢
    obtain ⟨u, e, hs⟩ := hv
    exact ⟨u, e, VR.cl x _ hs⟩
  | .nili, _, hv => hv
  | .junk, _, hv => hv
  termination_by structural c => c
theorem VRs.cl {E : Env} : (cs : List V) → (vs : List Value) → VRs E cs vs → VRs E (cls cs) vs
  | [], _, hv => hv
  | c :: cs, _, hv => by
    simp only [VRs, cls] at hv ⊢
    obtain ⟨v, l, e, h1, h2⟩ := hv
    exact ⟨v, l, e, VR.cl c v h1, VRs.cl cs l h2⟩
  termination_by structural cs => cs
theorem CellsAt.cl {E : Env} (b : Nat) : (cs : List V) → (o : Nat) → CellsAt E b o cs → CellsAt E b o (cls cs)
  | [], _, hv => hv
  | c :: cs, o, hv => by
    simp only [CellsAt, cls] at hv ⊢
    obtain ⟨⟨v, hc, hf, ho, hr⟩, h2⟩ := hv
    exact ⟨⟨v, hc, hf, ho, VR.cl c v hr⟩, CellsAt.cl b cs _ h2⟩
  termination_by structural cs => cs
theorem ElemsAt.cl {E : Env} (b z : Nat) : (xs : List (List V)) → (o : Nat) → ElemsAt E b o z xs → ElemsAt E b o z (clss xs)
  | [], _, hv => hv
  | c :: xs, o, hv => by
    simp only [ElemsAt, clss] at hv ⊢
    obtain ⟨h1, h2, h3⟩ := hv
    exact ⟨by rw [cls_len]; exact h1, CellsAt.cl b c o h2, ElemsAt.cl b z xs _ h3⟩
  termination_by structural xs => xs
end
mutual
theorem V.cl_bd : (c : V) → c.cl.bd 0 = true
  | .int _ _ => rfl
  | .bool _ => rfl
  | .str _ => rfl
  | .flt _ => rfl
  | .cpx _ _ => rfl
  | .agg cs => by simp only [V.cl, V.bd]; exact cls_bd cs
  | .tup cs => by simp only [V.cl, V.bd]; exact cls_bd cs
  | .sl t z xs => by simp only [V.cl, V.bd, Bool.true_and]; exact clss_bd xs
  | .row i _ _ _ _ => rfl
  | .rptr i _ _ _ _ => rfl
  | .cref cs => by simp only [V.cl, V.bd]; exact cls_bd cs
  | .ptr i off => rfl
  | .nilp => rfl
  | .fn _ cs => by simp only [V.cl, V.bd]; exact cls_bd cs
  | .nilf => rfl
  | .map i => rfl
  | .nilm => rfl
  | .cmap _ _ => rfl
  | .iface _ x => by simp only [V.cl, V.bd]; exact V.cl_bd x
  | .nili => rfl
  | .junk => rfl
  termination_by structural c => c
theorem cls_bd : (cs : List V) → bds 0 (cls cs) = true
  | [] => rfl
  | c :: cs => by simp only [cls, bds, Bool.and_eq_true]; exact ⟨V.cl_bd c, cls_bd cs⟩
  termination_by structural cs => cs
theorem clss_bd : (xs : List (List V)) → bdss 0 (clss xs) = true
  | [] => rfl
  | c :: xs => by simp only [clss, bdss, Bool.and_eq_true]; exact ⟨cls_bd c, clss_bd xs⟩
  termination_by structural xs => xs
end

/-- A pure function of things without names needs to be walked from one state only. -/
theorem pspec0 {P : Program} (hm : P.follows .mixedOrders = true) {f : FuncId} {ac : ACode} {res : List ARes} {nt : Nat} (hf : FnW P f ac res nt) {args : List V} {r : V} (hlen : args.length ≤ nt)
    (h : awp P ac (fun e S => (e = .normal ∨ e = .ret) ∧ ares S res fun vs => (tupV vs).cl = r) ⟨ofL (argL 0 (cls args)), fun _ => none, 0, nt, 0⟩) : PSpec P f args r := by
  obtain ⟨fn, c, hok, hf, hb, hc, hres, rfl⟩ := hf
  refine fun ob => ⟨hok, fun E vals hw hfin _ hv => ?_⟩
  have hw0 : (E.cut 0).wf := ⟨hw.F, hw.M, hw.K⟩
  have hn0 : ∀ j, 0 ≤ j → (E.cut 0).ι j = none := fun j _ => by simp [Env.cut]
  refine (calls_of_awp (E := E.cut 0) (dom := fun _ => False) (Post := fun u _ => u.cl = r) hm hf hb hc hres hw0 hn0 ⟨(fun _ _ h => by cases h), (fun _ _ _ _ _ _ _ h => by cases h)⟩ (fun _ _ h => by cases h) (VRs.cut _ _ (cls_bd args) (VRs.cl _ _ hv)) (by rw [cls_len]; exact hlen) h).mono fun e w' he => ?_
  obtain ⟨v, u, S, E', a, rfl, rfl, hvr, rfl, hrel⟩ := he
  have hnm : ∀ b, ¬ Gh.mine ⟨E.cut 0, fun _ => False, 0⟩ b := fun b ⟨_, _, hd, _⟩ => hd
  refine ⟨v, { E' with ι := E.ι }, rfl, rfl, ⟨rfl, hrel.fr.le.F, fun b o hf => ?_, fun b hm => (hrel.fr.le.M b hm).1, fun b hf => ?_, fun b hf => .inr (hrel.wf.K b hf), hrel.fr.size, fun b hb => hrel.fr.block b hb (hnm b), hrel.fr.os, hrel.fr.tape, hrel.fr.output⟩, ?_⟩
  · rcases hrel.fr.F b o hf with x | x | x
    · exact .inl x
    · exact absurd x (hnm b)
    · exact .inr ⟨x, hrel.wf.F b o hf⟩
  · rcases hrel.fr.M b hf with x | x | x
    · exact .inl x
    · exact absurd x (hnm b)
    · exact .inr ⟨x, hrel.wf.M b hf⟩
  · refine VR.mono ?_ (VR.cut (n := 0) _ _ (V.cl_bd u) (VR.cl _ _ hvr))
    exact ⟨fun i b m hi => by simp [Env.cut] at hi, fun _ _ h => h, fun _ _ _ => rfl, fun _ h => ⟨h, rfl⟩, fun _ c _ h => ⟨c, h, rfl⟩⟩

/-- A function that changes objects; names from where it ends on are new. -/
theorem cspecX {P : Program} (hm : P.follows .mixedOrders = true) {f : FuncId} {ac : ACode} {res : List ARes} {nt : Nat} (hf : FnW P f ac res nt) {args : List V} {r : V} {L L' : List (Nat × AObj)} {n n' : Nat} (hlen : args.length ≤ nt)
    (h : awp P ac (fun e S => (e = .normal ∨ e = .ret) ∧ ares S res fun vs => tupV vs = r ∧ n' = S.nx ∧ ∀ p ∈ L', S.ob p.1 = some p.2) ⟨ofL (argL 0 args), Obs.ov (fun _ => none) L, n, nt, n⟩) : CSpec P f args L n r L' n' := by
  obtain ⟨fn, c, hok, hf, hb, hc, hres, rfl⟩ := hf
  refine ⟨hok, fun E vals hw hn hs hv => ?_⟩
  have hdom : ∀ i o, Obs.ov (fun _ => none) L i = some o → ∃ o, (i, o) ∈ L := fun i o hi => by
    by_cases hm : ∃ o, (i, o) ∈ L
    · exact hm
    · rw [Obs.ov_get fun o h => hm ⟨o, h⟩] at hi
      cases hi
  refine (calls_of_awp (dom := fun i => ∃ o, (i, o) ∈ L) (Post := fun u S => u = r ∧ n' = S.nx ∧ ∀ p ∈ L', S.ob p.1 = some p.2) hm hf hb hc hres hw hn hs hdom hv hlen h).mono fun e w' he => ?_
  obtain ⟨v, u, S, E', a, rfl, rfl, hvr, ⟨rfl, rfl, hob⟩, hrel⟩ := he
  have hmine : ∀ b, Gh.mine ⟨E, fun i => ∃ o, (i, o) ∈ L, n⟩ b → ∃ i o m, (i, o) ∈ L ∧ E.ι i = some (some b, m) := fun b ⟨i, m, ⟨o, ho⟩, hi⟩ => ⟨i, o, m, ho, hi⟩
  have hsub : ∀ i o, Obs.ov (fun _ => none) L' i = some o → S.ob i = some o ∧ (i, o) ∈ L' := fun i o hi => by
    by_cases hm : ∃ o, (i, o) ∈ L'
    · obtain ⟨_, o2, h2, h3⟩ := Obs.ov_mem (ob := fun _ => none) (ob' := fun _ => none) hm
      rw [hi] at h2
      cases h2
      exact ⟨hob _ h3, h3⟩
    · rw [Obs.ov_get fun o h => hm ⟨o, h⟩] at hi
      cases hi
  refine ⟨v, E', rfl, rfl, ⟨hrel.fr.le, hrel.wf, fun j hj hd => ?_, fun j hj => hrel.nx j hj, fun b hb hne => ?_, fun b o hf => ?_, fun b hf => ?_, hrel.fr.size, hrel.fr.os, hrel.fr.tape, hrel.fr.output, fun i o b m ho hi => ?_⟩, ?_, hvr⟩
  · exact hrel.fr.ι j hj fun ⟨o, ho⟩ => hd o ho
  · refine hrel.fr.block b hb fun hm => ?_
    obtain ⟨i, o, m, h1, h2⟩ := hmine b hm
    exact hne i o m h1 h2
  · rcases hrel.fr.F b o hf with x | x | x
    · exact .inl x
    · exact .inr (.inr (hmine b x))
    · exact .inr (.inl x)
  · rcases hrel.fr.M b hf with x | x | x
    · exact .inl x
    · exact .inr (.inr (hmine b x))
    · exact .inr (.inl x)
  · rcases hrel.mine i o b m (hob _ ho) hi with x | x
    · exact .inr (hmine b x)
    · exact .inl x
  · exact hrel.ob.sub fun i o hi => (hsub i o hi).1

def gh : Gop → RS → X RS
  | .keep l, s => .ok { s with sl := l.map fun t => (t, lkv s.sl t) }
  | .mint t, s => match lkv s.sl t with
    | .sl .full z xs => .ok ⟨(t, .sl (.tip s.nx) z xs) :: s.sl, (s.nx, .tip z xs.length) :: s.ob, s.nx + 1⟩
    | _ => .error [110]
  | .mintr t z, s => match lkv s.sl t with
    | .sl .full _ [] => .ok ⟨(t, .row s.nx 0 z 0 0) :: s.sl, (s.nx, .row z []) :: s.ob, s.nx + 1⟩
    | _ => .error [111]
  | .mintc t k z, s => match lkv s.sl t with
    | .ptr i off => match lko s.ob i with
      | some (.cells cs) => match cs[off + k]? with
        | some (.sl .full _ []) => .ok ⟨s.sl, oset ((s.nx, .row z []) :: s.ob) i (.cells (cs.set (off + k) (.row s.nx 0 z 0 0))), s.nx + 1⟩
        | _ => .error [112]
      | _ => .error [113]
    | _ => .error [114]
  | .freezec t k, s => match lkv s.sl t with
    | .ptr i off => match lko s.ob i with
      | some (.cells cs) => match cs[off + k]? with
        | some (.row j n z o l) => match lko s.ob j with
          | some (.row z' xs) => guard (Nat.beq z' z && Nat.beq xs.length n) 115 (.ok ⟨s.sl, oset (odel s.ob j) i (.cells (cs.set (off + k) (.sl .no z ((xs.take (o + l)).drop o)))), s.nx⟩)
          | _ => .error [116]
        | _ => .error [117]
      | _ => .error [118]
    | _ => .error [119]
  | .freezem t k, s => match lkv s.sl t with
    | .cref cs => match cs[k]? with
      | some (.map i) => match lko s.ob i with
        | some (.map ks m) => .ok ⟨(t, .cref (cs.set k (.cmap ks m))) :: s.sl, odel s.ob i, s.nx⟩
        | _ => .error [190]
      | _ => .error [191]
    | _ => .error [192]
  | .truncc t k, s => match lkv s.sl t with
    | .ptr i off => match lko s.ob i with
      | some (.cells cs) => match cs[off + k]? with
        | some (.row j n z 0 l) => match lko s.ob j with
          | some (.row z' xs) => guard (Nat.beq z' z && Nat.beq xs.length n && Nat.ble l n) 173 (.ok ⟨s.sl, oset ((s.nx, .row z (xs.take l)) :: oset s.ob j (.tip z (n + 1))) i (.cells (cs.set (off + k) (.row s.nx l z 0 l))), s.nx + 1⟩)
          | _ => .error [174]
        | _ => .error [175]
      | _ => .error [176]
    | _ => .error [177]
  | .freezep t, s => match lkv s.sl t with
    | .ptr i 0 => match lko s.ob i with
      | some (.cells cs) => .ok ⟨(t, .cref cs) :: s.sl, odel s.ob i, s.nx⟩
      | _ => .error [120]
    | _ => .error [121]
  | .freezer t, s => match lkv s.sl t with
    | .row i n z o l => match lko s.ob i with
      | some (.row z' xs) => guard (Nat.beq z' z && Nat.beq xs.length n) 122 (.ok ⟨(t, .sl .no z ((xs.take (o + l)).drop o)) :: s.sl, odel s.ob i, s.nx⟩)
      | _ => .error [123]
    | _ => .error [124]
  | .keepo _, _ => .error [125]
  | .lower, _ => .error [126]
theorem ofL_cons {t : Nat} {v : V} {l : List (Nat × V)} : ofL ((t, v) :: l) = upd (ofL l) t v := rfl
theorem gh_ok {nt bs : Nat} {g : Gop} {s s' : RS} {K : St → Prop} (h : gh g s = .ok s') (hk : K (s'.st nt bs)) : agh g (s.st nt bs) K := by
  have hsl : ∀ t, (s.st nt bs).sl t = lkv s.sl t := fun t => (lkv_eq _ _).symm
  have hob : ∀ i, (s.st nt bs).ob i = lko s.ob i := fun i => (lko_eq _ _).symm
  cases g with
  | keep l =>
    simp only [gh] at h
    cases h
    simp only [agh, hsl]
    exact hk
  | keepo l => simp only [gh] at h; cases h
  | lower => simp only [gh] at h; cases h
  | mint t =>
    simp only [gh] at h
    simp only [agh, hsl]
    split at h
    · rename_i ht
      simp only [ht]
      cases h
      exact hk
    · cases h
  | mintr t z =>
    simp only [gh] at h
    simp only [agh, hsl]
    split at h
    · rename_i ht
      simp only [ht]
      cases h
      exact hk
    · cases h
  | mintc t k z =>
    simp only [gh] at h
    simp only [agh, hsl, hob]
    split at h
    · rename_i ht
      simp only [ht]
      split at h
      · rename_i ho
        split at h
        · rename_i hc
          cases h
          refine ⟨_, ho, ⟨_, hc⟩, ?_⟩
          simp only [RS.st, oset_eq, obl_cons] at hk
          exact hk
        · cases h
      · cases h
    · cases h
  | freezec t k =>
    simp only [gh] at h
    simp only [agh, hsl, hob]
    split at h
    · rename_i ht
      simp only [ht]
      split at h
      · rename_i ho
        split at h
        · rename_i hc
          split at h
          · rename_i hj
            obtain ⟨h1, h2⟩ := guard_ok h
            cases h2
            simp only [Bool.and_eq_true, Nat.beq_eq] at h1
            obtain ⟨rfl, h4⟩ := h1
            refine ⟨_, ho, _, _, _, _, _, _, hc, hj, h4, ?_⟩
            simp only [RS.st, oset_eq, odel_eq] at hk
            exact hk
          · cases h
        · cases h
      · cases h
    · cases h
  | freezem t k =>
    simp only [gh] at h
    simp only [agh, hsl, hob]
    split at h
    · rename_i ht
      simp only [ht]
      split at h
      · rename_i hc
        split at h
        · rename_i ho
          cases h
          refine ⟨_, _, _, hc, ho, ?_⟩
          simp only [RS.st, odel_eq] at hk
          exact hk
        · cases h
      · cases h
    · cases h
  | truncc t k =>
    simp only [gh] at h
    simp only [agh, hsl, hob]
    split at h
    · rename_i ht
      simp only [ht]
      split at h
      · rename_i ho
        split at h
        · rename_i hc
          split at h
          · rename_i hj
            obtain ⟨h1, h2⟩ := guard_ok h
            cases h2
            simp only [Bool.and_eq_true, Nat.beq_eq] at h1
            obtain ⟨⟨rfl, h4⟩, h5⟩ := h1
            refine ⟨_, ho, _, _, _, _, _, hc, hj, h4, Nat.le_of_ble_eq_true h5, ?_⟩
            simp only [RS.st, oset_eq, obl_cons] at hk
            exact hk
          · cases h
        · cases h
      · cases h
    · cases h
  | freezep t =>
    simp only [gh] at h
    simp only [agh, hsl, hob]
    split at h
    · rename_i ht
      simp only [ht]
      split at h
      · rename_i ho
        cases h
        refine ⟨_, ho, ?_⟩
        simp only [RS.st, odel_eq] at hk
        exact hk
      · cases h
    · cases h
  | freezer t =>
    simp only [gh] at h
    simp only [agh, hsl, hob]
    split at h
    · rename_i ht
      simp only [ht]
      split at h
      · rename_i ho
        obtain ⟨h1, h2⟩ := guard_ok h
        cases h2
        simp only [Bool.and_eq_true, Nat.beq_eq] at h1
        obtain ⟨rfl, h4⟩ := h1
        refine ⟨_, ho, h4, ?_⟩
        simp only [RS.st, odel_eq] at hk
        exact hk
      · cases h
    · cases h

def iter (f : RS → X (AExit × RS)) : Nat → RS → X (AExit × RS)
  | 0, _ => .error [130]
  | n + 1, s => match f s with
    | .ok (.normal, s') => iter f n s'
    | r => r
def run (c : Cl) (fuel : Nat) : ACode → RS → X (AExit × RS)
  | .skip, s => .ok (.normal, s)
  | .ret, s => .ok (.ret, s)
  | .exit id, s => .ok (.exit id, s)
  | .reg os, s => match rops c false os s with
    | .ok s' => .ok (.normal, s')
    | .error e => .error e
  | .drw os, s => match rops c false os s with
    | .ok s' => .ok (.normal, s')
    | .error e => .error e
  | .drb os ord, s => match rops c true (pickA os ord) s with
    | .ok s' => .ok (.normal, s')
    | .error e => .error e
  | .drm os ord, s => match ropsM c (pickM os ord) s with
    | .ok s' => .ok (.normal, s')
    | .error e => .error e
  | .rgm d0 d1 bs os, s => match rops c false os ((s.put (some d0) (.sl .no 1 (bs.map fun b => [.int .u8 b]))).put (some d1) (.sl .no 1 (bs.map fun b => [.int .u8 b]))) with
    | .ok s' => .ok (.normal, s')
    | .error e => .error e
  | .seq a b, s => match run c fuel a s with
    | .ok (.normal, s') => run c fuel b s'
    | r => r
  | .cond x a b, s => match s.ev x with
    | .bool t => bif t then run c fuel a s else run c fuel b s
    | _ => .error [131]
  | .block id a, s => match run c fuel a s with
    | .ok (.exit j, s') => bif Nat.beq j id then .ok (.normal, s') else .ok (.exit j, s')
    | r => r
  | .loop a, s => iter (run c fuel a) fuel s
  | .gseq g a, s => match gh g s with
    | .ok s' => run c fuel a s'
    | .error e => .error e
  | .seqg a g, s => match run c fuel a s with
    | .ok (.normal, s') => match gh g s' with
      | .ok s'' => .ok (.normal, s'')
      | .error e => .error e
    | r => r
theorem run_ok {P : Program} {c : Cl} (hc : ClOk P c) {fuel nt bs : Nat} : ∀ (a : ACode) {K : AExit → St → Prop} {s s' : RS} {e : AExit}, run c fuel a s = .ok (e, s') → K e (s'.st nt bs) → awp P a K (s.st nt bs)
  | .skip, K, s, s', e, h, hk => by simp only [run] at h; cases h; exact hk
  | .ret, K, s, s', e, h, hk => by simp only [run] at h; cases h; exact hk
  | .exit id, K, s, s', e, h, hk => by simp only [run] at h; cases h; exact hk
  | .reg os, K, s, s', e, h, hk => by
    simp only [run] at h
    split at h
    · rename_i h1
      cases h
      exact rops_ok hc hk _ _ h1
    · cases h
  | .drw os, K, s, s', e, h, hk => by
    simp only [run] at h
    split at h
    · rename_i h1
      cases h
      exact rops_ok hc hk _ _ h1
    · cases h
  | .drb os ord, K, s, s', e, h, hk => by
    simp only [run] at h
    split at h
    · rename_i h1
      cases h
      exact ropsB_ok hc hk _ _ h1
    · cases h
  | .drm os ord, K, s, s', e, h, hk => by
    simp only [run] at h
    split at h
    · rename_i h1
      cases h
      exact ropsM_ok hc hk _ _ h1
    · cases h
  | .rgm d0 d1 bs os, K, s, s', e, h, hk => by
    simp only [run] at h
    simp only [awp]
    split at h
    · rename_i h1
      cases h
      have := rops_ok hc hk _ _ h1
      rw [RS.put_eq, RS.put_eq] at this
      exact this
    · cases h
  | .seq a b, K, s, s', e, h, hk => by
    simp only [run] at h
    simp only [awp]
    split at h
    · rename_i h1
      exact run_ok hc a h1 (run_ok hc b h hk)
    · rename_i h1
      refine run_ok hc a h ?_
      split
      · exact absurd h (h1 _)
      · exact hk
  | .cond x a b, K, s, s', e, h, hk => by
    simp only [run] at h
    simp only [awp, RS.ev_eq]
    split at h
    · rename_i t ht
      simp only [ht]
      cases t
      · exact ⟨fun h => (Bool.false_ne_true h).elim, fun _ => run_ok hc b h hk⟩
      · exact ⟨fun _ => run_ok hc a h hk, fun h => (Bool.false_ne_true h.symm).elim⟩
    · cases h
  | .block id a, K, s, s', e, h, hk => by
    simp only [run] at h
    simp only [awp]
    split at h
    · rename_i j s1 h1
      refine run_ok hc a h1 ?_
      simp only
      by_cases hj : j = id
      · subst hj
        rw [if_pos rfl]
        simp only [Nat.beq_refl, cond_true] at h
        cases h
        exact hk
      · rw [if_neg hj]
        rw [beq_ne hj] at h
        cases h
        exact hk
    · rename_i h1
      refine run_ok hc a h ?_
      split
      · exact absurd h (h1 _ _)
      · exact hk
  | .loop a, K, s, s', e, h, hk => by
    simp only [run] at h
    simp only [awp]
    refine ⟨fun n S => ∃ s, S = RS.st nt bs s ∧ iter (run c fuel a) n s = .ok (e, s'), fuel, ⟨s, rfl, h⟩, ?_⟩
    rintro n S' ⟨s1, rfl, h1⟩
    cases n with
    | zero => simp only [iter] at h1; cases h1
    | succ n =>
      simp only [iter] at h1
      split at h1
      · rename_i h2
        refine run_ok hc a h2 ?_
        exact ⟨n, Nat.lt_succ_self n, _, rfl, h1⟩
      · rename_i h2
        refine run_ok hc a h1 ?_
        split
        · exact absurd h1 (h2 _)
        · exact hk
  | .gseq g a, K, s, s', e, h, hk => by
    simp only [run] at h
    simp only [awp]
    split at h
    · rename_i h1
      exact gh_ok h1 (run_ok hc a h hk)
    · cases h
  | .seqg a g, K, s, s', e, h, hk => by
    simp only [run] at h
    simp only [awp]
    split at h
    · rename_i h1
      refine run_ok hc a h1 ?_
      split at h
      · rename_i h2
        cases h
        exact gh_ok h2 hk
      · cases h
    · rename_i h1
      refine run_ok hc a h ?_
      split
      · exact absurd h (h1 _)
      · exact hk

def rres (s : RS) : List ARes → X (List V)
  | [] => .ok []
  | .t n :: r => match rres s r with
    | .ok vs => .ok ((lkv s.sl n).un :: vs)
    | .error e => .error e
  | .c n k g :: r => match lkv s.sl n with
    | .cref cs => guard (Nat.ble k cs.length) 140 (match rres s r with
      | .ok vs => .ok ((ldv g k cs).un :: vs)
      | .error e => .error e)
    | .ptr i off => match lko s.ob i with
      | some (.cells cs) => guard (Nat.ble (off + k) cs.length) 141 (match rres s r with
        | .ok vs => .ok ((ldv g k (cs.drop off)).un :: vs)
        | .error e => .error e)
      | _ => .error [142]
    | _ => .error [143]
theorem rres_ok {nt bs : Nat} {s : RS} : ∀ (l : List ARes) {vs : List V} {K : List V → Prop}, rres s l = .ok vs → K vs → ares (s.st nt bs) l K
  | [], vs, K, h, hk => by simp only [rres] at h; cases h; exact hk
  | .t n :: r, vs, K, h, hk => by
    have hsl : ∀ t, (s.st nt bs).sl t = lkv s.sl t := fun t => (lkv_eq _ _).symm
    simp only [rres] at h
    simp only [ares, hsl]
    split at h
    · rename_i h1
      cases h
      exact rres_ok r h1 hk
    · cases h
  | .c n k g :: r, vs, K, h, hk => by
    have hsl : ∀ t, (s.st nt bs).sl t = lkv s.sl t := fun t => (lkv_eq _ _).symm
    have hob : ∀ i, (s.st nt bs).ob i = lko s.ob i := fun i => (lko_eq _ _).symm
    simp only [rres] at h
    simp only [ares, hsl]
    split at h
    · rename_i hx
      simp only [hx]
      obtain ⟨h1, h2⟩ := guard_ok h
      split at h2
      · rename_i h3
        cases h2
        exact ⟨Nat.le_of_ble_eq_true h1, rres_ok r h3 hk⟩
      · cases h2
    · rename_i hx
      simp only [hx, hob]
      split at h
      · rename_i ho
        obtain ⟨h1, h2⟩ := guard_ok h
        split at h2
        · rename_i h3
          cases h2
          exact ⟨_, ho, Nat.le_of_ble_eq_true h1, rres_ok r h3 hk⟩
        · cases h2
      · cases h
    · cases h

abbrev Tab := FuncId → Option (ACode × List ARes × Nat)
def TabOk (P : Program) (t : Tab) : Prop := ∀ f c r nt, t f = some (c, r, nt) → FnW P f c r nt
def hasKey (k : Nat) : List (Nat × AObj) → Bool
  | [] => false
  | p :: r => bif Nat.beq k p.1 then true else hasKey k r
theorem hasKey_ok {k : Nat} : ∀ {L : List (Nat × AObj)}, hasKey k L = true → ∃ o, (k, o) ∈ L
  | [], h => by cases h
  | p :: r, h => by
    simp only [hasKey] at h
    by_cases hk : k = p.1
    · exact ⟨p.2, by rw [hk]; simp⟩
    · rw [beq_ne hk] at h
      obtain ⟨o, ho⟩ := hasKey_ok h
      exact ⟨o, by simp [ho]⟩
def keepKeys (L : List (Nat × AObj)) : List (Nat × AObj) → List (Nat × AObj)
  | [] => []
  | p :: r => bif hasKey p.1 L then p :: keepKeys L r else keepKeys L r
theorem keepKeys_mem {L : List (Nat × AObj)} : ∀ {l : List (Nat × AObj)} {p : Nat × AObj}, p ∈ keepKeys L l → p ∈ l ∧ ∃ o, (p.1, o) ∈ L
  | q :: r, p, h => by
    simp only [keepKeys] at h
    cases hq : hasKey q.1 L
    · rw [hq] at h
      have := keepKeys_mem (l := r) h
      exact ⟨by simp [this.1], this.2⟩
    · rw [hq] at h
      rcases List.mem_cons.1 h with rfl | h
      · exact ⟨by simp, hasKey_ok hq⟩
      · have := keepKeys_mem (l := r) h
        exact ⟨by simp [this.1], this.2⟩
/-- esc: the functions that make objects which outlive them. -/
def lev (tab : Tab) (esc : FuncId → Bool) (fuel : Nat) : Nat → Cl
  | 0 => ⟨fun _ _ => .error [150], fun _ _ _ _ => .error [150]⟩
  | k + 1 => ⟨fun f args => match tab f with
      | none => .error [f, 151]
      | some (c, rs, nt) => guard (Nat.ble args.length nt) 152 (match run (lev tab esc fuel k) fuel c ⟨argL 0 (cls args), [], 0⟩ with
        | .ok (.exit _, _) => .error [f, 153]
        | .ok (_, s') => match rres s' rs with
          | .ok vs => .ok (tupV vs).cl
          | .error e => .error (f :: 155 :: e)
        | .error e => .error (f :: 156 :: e)),
    fun f args L n => match tab f with
      | none => .error [f, 161]
      | some (c, rs, nt) => guard (Nat.ble args.length nt && nodupK L) 162 (match run (lev tab esc fuel k) fuel c ⟨argL 0 args, L, n⟩ with
        | .ok (.exit _, _) => .error [f, 163]
        | .ok (_, s') => match rres s' rs with
          | .ok vs => bif esc f then
              guard (nodupK s'.ob && Nat.ble n s'.nx && (L.all fun p => hasKey p.1 s'.ob) && s'.ob.all fun p => Nat.blt p.1 s'.nx && (hasKey p.1 L || Nat.ble n p.1)) 164 (.ok (tupV vs, s'.ob, s'.nx))
            else guard (nodupK (keepKeys L s'.ob) && Nat.ble n s'.nx && (L.all fun p => hasKey p.1 (keepKeys L s'.ob)) && L.all fun p => Nat.blt p.1 s'.nx) 167 (.ok (tupV vs, keepKeys L s'.ob, s'.nx))
          | .error e => .error (f :: 165 :: e)
        | .error e => .error (f :: 166 :: e))⟩theorem keepKeys_obl {L : List (Nat × AObj)} : ∀ {l : List (Nat × AObj)}, nodupK (keepKeys L l) = true → ∀ p ∈ keepKeys L l, obl l p.1 = some p.2
  | q :: r, hn, p, h => by
    simp only [keepKeys] at h hn
    show upd (obl r) q.1 (some q.2) p.1 = _
    cases hq : hasKey q.1 L <;> rw [hq] at h hn
    · obtain ⟨o, ho⟩ := (keepKeys_mem (l := r) h).2
      have hne : p.1 ≠ q.1 := fun e => by
        have hh : hasKey q.1 L = true := by
          rw [← e]
          clear hq h hn e
          induction L with
          | nil => cases ho
          | cons d L ih =>
            simp only [hasKey]
            by_cases hd : p.1 = d.1
            · rw [hd]; simp
            · rw [beq_ne hd]
              rcases List.mem_cons.1 ho with x | x
              · exact absurd (by rw [← x]) hd
              · exact ih x
        rw [hh] at hq
        cases hq
      rw [upd_ne _ _ hne]
      exact keepKeys_obl hn p h
    · simp only [cond_true, nodupK, Bool.and_eq_true, List.all_eq_true] at hn
      rcases List.mem_cons.1 h with rfl | h
      · exact upd_same _ _ _
      · have := hn.1 p h
        have hne : p.1 ≠ q.1 := fun e => by
          rw [e] at this
          simp at this
        rw [upd_ne _ _ hne]
        exact keepKeys_obl hn.2 p h
theorem lev_ok {P : Program} (hm : P.follows .mixedOrders = true) {tab : Tab} (ht : TabOk P tab) {esc : FuncId → Bool} {fuel : Nat} : ∀ k, ClOk P (lev tab esc fuel k)
  | 0 => ⟨fun _ _ _ h => (by simp only [lev] at h; cases h), fun _ _ _ _ _ _ _ h => (by simp only [lev] at h; cases h)⟩
  | k + 1 => by
    have ih := lev_ok hm ht (esc := esc) (fuel := fuel) k
    refine ⟨fun f args r h => ?_, fun f args L n r L' n' h => ?_⟩
    · simp only [lev] at h
      split at h
      · cases h
      · rename_i c rs nt hf
        obtain ⟨h1, h2⟩ := guard_ok h
        split at h2
        · cases h2
        · rename_i e s' hne hr
          split at h2
          · rename_i vs hv
            cases h2
            refine pspec0 hm (ht _ _ _ _ hf) (Nat.le_of_ble_eq_true h1) ?_
            refine run_ok ih c (s := ⟨argL 0 (cls args), [], 0⟩) hr ⟨?_, rres_ok rs hv rfl⟩
            cases e with
            | normal => exact .inl rfl
            | ret => exact .inr rfl
            | exit id => exact absurd rfl (hne id)
          · cases h2
        · cases h2
    · simp only [lev] at h
      split at h
      · cases h
      · rename_i c rs nt hf
        obtain ⟨h1, h2⟩ := guard_ok h
        simp only [Bool.and_eq_true] at h1
        split at h2
        · cases h2
        · rename_i e s' hne hr
          have hex : e = .normal ∨ e = .ret := by
            cases e with
            | normal => exact .inl rfl
            | ret => exact .inr rfl
            | exit id => exact absurd rfl (hne id)
          split at h2
          · rename_i vs hv
            cases hesc : esc f <;> rw [hesc] at h2
            · simp only [cond_false] at h2
              obtain ⟨h3, h4⟩ := guard_ok h2
              cases h4
              simp only [Bool.and_eq_true, List.all_eq_true] at h3
              obtain ⟨⟨⟨k1, k2⟩, k3⟩, k4⟩ := h3
              refine ⟨cspecX hm (ht _ _ _ _ hf) (Nat.le_of_ble_eq_true h1.1) ?_, h1.2, fun p hp => hasKey_ok (k3 p hp), fun p hp => ?_, Nat.le_of_ble_eq_true k2⟩
              · exact run_ok ih c (s := ⟨argL 0 args, L, n⟩) hr ⟨hex, rres_ok rs hv ⟨rfl, rfl, fun p hp => keepKeys_obl k1 p hp⟩⟩
              · obtain ⟨_, o, ho⟩ := keepKeys_mem hp
                exact ⟨Nat.le_of_ble_eq_true (k4 (p.1, o) ho), .inl ⟨o, ho⟩⟩
            · simp only [cond_true] at h2
              obtain ⟨h3, h4⟩ := guard_ok h2
              cases h4
              simp only [Bool.and_eq_true, List.all_eq_true, Bool.or_eq_true] at h3
              obtain ⟨⟨⟨k1, k3⟩, k4⟩, k5⟩ := h3
              refine ⟨cspecX hm (ht _ _ _ _ hf) (Nat.le_of_ble_eq_true h1.1) ?_, h1.2, fun p hp => hasKey_ok (k4 p hp), fun p hp => ⟨Nat.le_of_ble_eq_true (k5 p hp).1, ?_⟩, Nat.le_of_ble_eq_true k3⟩
              · exact run_ok ih c (s := ⟨argL 0 args, L, n⟩) hr ⟨hex, rres_ok rs hv ⟨rfl, rfl, fun p hp => obl_mem k1 p hp⟩⟩
              · rcases (k5 p hp).2 with x | x
                · exact .inl (hasKey_ok x)
                · exact .inr (Nat.le_of_ble_eq_true x)
          · cases h2
        · cases h2
end Go.Proofs.Fathom
