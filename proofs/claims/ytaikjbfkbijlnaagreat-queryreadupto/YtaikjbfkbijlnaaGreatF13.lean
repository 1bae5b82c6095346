/- A part of the proof of 'Rows.QueryReadUptoSaid': for every text and every seeds (of bulk at most 1048576 together) fathomlaw19.QueryRead returns true and its arguments read afterwards as before. -/
import Derived.Test.YtaikjbfkbijlnaaGreatF12
set_option linter.unusedVariables false
set_option linter.unusedSimpArgs false
namespace Go.Proofs.Fathom
open Go

inductive ARes where
  | t (n : Nat)
  | c (n k : Nat) (g : Bool)
def chkRes (P : Program) : List ResultVar → List ARes → Bool
  | [], [] => true
  | .tmp t :: xs, .t n :: ys => t == n && chkRes P xs ys
  | .cell a t :: xs, .c n k g :: ys => a == n && aggOf P t == some g && sizeT P t == some k && (g || k == 1) && chkRes P xs ys
  | _, _ => false
/-- A list's place of growth is forgotten. -/
def V.un1 : V → V
  | .sl _ z xs => .sl .no z xs
  | v => v
def V.un : V → V
  | .sl _ z xs => .sl .no z xs
  | .agg cs => .agg (cs.map V.un1)
  | v => v
theorem VR.un1 {E : Env} : ∀ {c : V} {v : Value}, VR E c v → VR E c.un1 v
  | .sl t z xs, v, h => by
    simp only [VR, V.un1] at h ⊢
    obtain ⟨a, len, cap, e, hl, hc, hx, ht⟩ := h
    exact ⟨a, len, cap, e, hl, hc, hx, trivial⟩
  | .int _ _, _, h | .bool _, _, h | .str _, _, h | .flt _, _, h | .cpx _ _, _, h | .agg _, _, h | .tup _, _, h | .row _ _ _ _ _, _, h | .rptr _ _ _ _ _, _, h | .cref _, _, h | .ptr _ _, _, h | .nilp, _, h | .fn _ _, _, h | .nilf, _, h | .map _, _, h | .nilm, _, h | .cmap _ _, _, h | .iface _ _, _, h | .nili, _, h | .junk, _, h => h
theorem VRs.un1 {E : Env} : ∀ {cs : List V} {vs : List Value}, VRs E cs vs → VRs E (cs.map V.un1) vs
  | [], _, h => h
  | c :: cs, _, h => by
    simp only [VRs, List.map_cons] at h ⊢
    obtain ⟨v, l, e, h1, h2⟩ := h
    exact ⟨v, l, e, h1.un1, VRs.un1 h2⟩
theorem VR.un {E : Env} : ∀ {c : V} {v : Value}, VR E c v → VR E c.un v
  | .agg cs, v, h => by
    simp only [VR, V.un] at h ⊢
    obtain ⟨vs, e, h1, h2⟩ := h
    exact ⟨vs, e, h1, h2.un1⟩
  | .sl t z xs, v, h => VR.un1 (c := .sl t z xs) h
  | .int _ _, _, h | .bool _, _, h | .str _, _, h | .flt _, _, h | .cpx _ _, _, h | .tup _, _, h | .row _ _ _ _ _, _, h | .rptr _ _ _ _ _, _, h | .cref _, _, h | .ptr _ _, _, h | .nilp, _, h | .fn _ _, _, h | .nilf, _, h | .map _, _, h | .nilm, _, h | .cmap _ _, _, h | .iface _ _, _, h | .nili, _, h | .junk, _, h => h
def ares (S : St) : List ARes → (List V → Prop) → Prop
  | [], K => K []
  | .t n :: r, K => ares S r fun vs => K ((S.sl n).un :: vs)
  | .c n k g :: r, K => match S.sl n with
    | .cref cs => k ≤ cs.length ∧ ares S r fun vs => K ((ldv g k cs).un :: vs)
    | .ptr i off => ∃ cs, S.ob i = some (.cells cs) ∧ off + k ≤ cs.length ∧ ares S r fun vs => K ((ldv g k (cs.drop off)).un :: vs)
    | _ => False
def tupV : List V → V
  | [v] => v
  | vs => .tup vs
def argL : Nat → List V → List (Nat × V)
  | _, [] => []
  | k, v :: vs => (k, v) :: argL (k + 1) vs
theorem ofL_argL : ∀ (vs : List V) (k t : Nat), ofL (argL k vs) t = if t < k then .junk else (vs[t - k]?).getD .junk
  | [], k, t => by simp [argL, ofL]
  | v :: vs, k, t => by
    simp only [argL, ofL]
    by_cases h : t = k
    · subst h; simp
    · rw [if_neg h, ofL_argL vs (k + 1) t]
      by_cases h2 : t < k
      · rw [if_pos h2, if_pos (by omega)]
      · rw [if_neg h2, if_neg (by omega)]
        rw [show t - k = (t - (k + 1)) + 1 by omega, List.getElem?_cons_succ]

section
variable {P : Program} {G : Gh}

def valOf : List Value → Value
  | [u] => u
  | us => .tuple us.toArray
def resStep (tmps : Array Value) : ResultVar → Sem Value
  | .tmp t => pure (tmps.getD t undef)
  | .cell a t => do loadVar t (← asAddr (tmps.getD a undef))
theorem ares_run {E : Env} {S : St} {a : Act} (h : Rel G E S a) : ∀ (rs : List ResultVar) (res : List ARes), chkRes P rs res = true → ∀ {K : List V → Prop}, ares S res K →
    ∃ vs us, K vs ∧ VRs E vs us ∧ (rs.mapM (resStep a.tmps)).run P E.w = .ok us E.w
  | [], [], _, K, hk => ⟨[], [], hk, by simp [VRs], by simp⟩
  | [], _ :: _, hc, _, _ => by simp [chkRes] at hc
  | _ :: _, [], hc, _, _ => by simp [chkRes] at hc
  | .tmp t :: rs, .t n :: res, hc, K, hk => by
    simp only [chkRes, Bool.and_eq_true, beq_iff_eq] at hc
    obtain ⟨rfl, hc⟩ := hc
    simp only [ares] at hk
    obtain ⟨vs, us, h1, h2, h3⟩ := ares_run h rs res hc hk
    refine ⟨_, a.tmps.getD t undef :: us, h1, by simp only [VRs]; exact ⟨_, _, rfl, (h.slots t).un, h2⟩, ?_⟩
    simp only [List.mapM_cons, Sem.run_bind, resStep, Sem.run_pure, Result.andThen_ok, h3]
  | .cell c t :: rs, .c n k g :: res, hc, K, hk => by
    simp only [chkRes, Bool.and_eq_true, beq_iff_eq] at hc
    obtain ⟨⟨⟨⟨rfl, hag⟩, hsz⟩, hg⟩, hc⟩ := hc
    have hs := h.slots c
    simp only [ares] at hk
    have fin : ∀ {b o : Nat} {v : Value} {us : List Value}, a.tmps.getD c undef = .pointer (some ⟨b, o, none⟩) → (loadVar t ⟨b, o, none⟩).run P E.w = .ok v E.w → (rs.mapM (resStep a.tmps)).run P E.w = .ok us E.w →
        ((ResultVar.cell c t :: rs).mapM (resStep a.tmps)).run P E.w = .ok (v :: us) E.w := by
      intro b o v us h1 h2 h3
      simp only [List.mapM_cons, Sem.run_bind, resStep, h1, asAddr, Sem.run_pure, Result.andThen_ok, h2, h3]
    split at hk
    · rename_i cs hsl
      rw [hsl] at hs
      simp only [VR] at hs
      obtain ⟨b, o, hv, hcs⟩ := hs
      obtain ⟨ws, h2, h3, h4⟩ := CellsAt_iff.1 hcs
      obtain ⟨v, h5, h6⟩ := load_cells (P := P) hag hsz hg h2 h3 (fun j v hj => (h4 j v hj).1) hk.1
      obtain ⟨vs, us, k1, k2, k3⟩ := ares_run h rs res hc hk.2
      exact ⟨_, v :: us, k1, by simp only [VRs]; exact ⟨_, _, rfl, h5.un, k2⟩, fin hv h6 k3⟩
    · rename_i i off hsl
      rw [hsl] at hs
      simp only [VR] at hs
      obtain ⟨b, hi, hv⟩ := hs
      obtain ⟨cs, hob, hlen, hk⟩ := hk
      obtain ⟨b', cur, e, hi', hh, hone, hr, _⟩ := h.ob.ok _ _ hob
      rw [hi] at hi'
      cases hi'
      obtain ⟨v, h5, h6⟩ := load_cells (P := P) (b := b) (o := off) (E := E) hag hsz hg (hr.drop off) (fun u hu => hone u (List.mem_of_mem_drop hu)) (fun j v hj => by
        rw [cell_of_row E.w b (off + j) cur e (0, 0) hh]
        rw [List.getElem?_drop] at hj
        simpa using hj) (by simp; omega)
      obtain ⟨vs, us, k1, k2, k3⟩ := ares_run h rs res hc hk
      exact ⟨_, v :: us, k1, by simp only [VRs]; exact ⟨_, _, rfl, h5.un, k2⟩, fin hv h6 k3⟩
    · cases hk
  | .tmp _ :: _, .c _ _ _ :: _, hc, _, _ => by simp [chkRes] at hc
  | .cell _ _ :: _, .t _ :: _, hc, _, _ => by simp [chkRes] at hc
theorem results_run {fn : Func} {tmps : Array Value} {w : World} {us : List Value} (h : (fn.results.toList.mapM (resStep tmps)).run P w = .ok us w) :
    (results fn tmps).run P w = .ok (valOf us) w := by
  have e : fn.results.mapM (resStep tmps) = (do let l ← fn.results.toList.mapM (resStep tmps); pure l.toArray) := by
    rw [Array.mapM_eq_mapM_toList]
    simp
  have e2 : results fn tmps = (do let vs ← fn.results.mapM (resStep tmps); pure (if h : vs.size = 1 then vs[0] else .tuple vs)) := rfl
  rw [e2, e]
  simp only [Sem.run_bind, h, Result.andThen_ok, Sem.run_pure]
  congr 1
  cases us with
  | nil => rfl
  | cons u us =>
    cases us with
    | nil => rfl
    | cons u2 us => simp [valOf]
theorem VRs.tupV {E : Env} {vs : List V} {us : List Value} (h : VRs E vs us) : VR E (tupV vs) (valOf us) := by
  cases vs with
  | nil =>
    simp only [VRs] at h
    subst h
    simp only [Go.Proofs.Fathom.tupV, VR]
    exact ⟨#[], rfl, by simp [VRs]⟩
  | cons v vs =>
    have h0 := h
    simp only [VRs] at h
    obtain ⟨u, us', rfl, h1, h2⟩ := h
    cases vs with
    | nil =>
      simp only [VRs] at h2
      subst h2
      exact h1
    | cons v2 vs =>
      have h3 := h2
      simp only [VRs] at h3
      obtain ⟨u2, us2, rfl, _, _⟩ := h3
      simp only [Go.Proofs.Fathom.tupV, VR]
      exact ⟨_, rfl, by simpa using h0⟩

/-- How a call begins. -/
theorem Rel.start {E : Env} {ob : Obs} {n nt : Nat} {dom : Nat → Prop} {args : List V} {vals : List Value} (hw : E.wf) (hn : ∀ j, n ≤ j → E.ι j = none) (hs : SOk E ob) (hd : ∀ i o, ob i = some o → dom i) (hv : VRs E args vals) (hlen : args.length ≤ nt) :
    Rel ⟨E, dom, n⟩ E ⟨ofL (argL 0 args), ob, n, nt, n⟩ { tmps := vals.toArray ++ Array.replicate (nt - vals.toArray.size) undef, defers := [] } where
  wf := hw
  fr := ⟨Env.le.refl E, rfl, rfl, rfl, Nat.le_refl _, fun _ _ _ => rfl, fun _ _ h => .inl h, fun _ h => .inl h, fun _ _ _ => rfl, hn⟩
  slots := fun t => by
    have hl := hv.length
    show VR E (ofL (argL 0 args) t) _
    rw [ofL_argL, if_neg (by omega), Nat.sub_zero]
    cases ht : args[t]? with
    | none => simp only [Option.getD_none, VR]
    | some c =>
      obtain ⟨v, h1, h2⟩ := hv.get ht
      have hlt := (List.getElem?_eq_some_iff.1 h1).1
      rw [Array.getD_eq_getD_getElem?, Array.getElem?_append_left (by simpa using hlt)]
      simp only [List.getElem?_toArray, h1, Option.getD_some]
      exact h2
  sz := by
    have hl := hv.length
    simp only [Array.size_append, List.size_toArray, Array.size_replicate]
    omega
  df := rfl
  ob := hs
  nx := hn
  nn := Nat.le_refl _
  idm := fun i o hi => .inl (hd i o hi)
  mine := fun i o b m hi hb => .inl ⟨i, m, hd i o hi, hb⟩
  bs := Nat.le_refl _

/-- The walk of a body tells what a call comes to. -/
theorem calls_of_awp (hm : P.follows .mixedOrders = true) {f : FuncId} {fn : Func} {c : Code} {ac : ACode} {res : List ARes} (hf : P.funcs[f]? = some fn) (hb : fn.body = some c) (hc : chkCode P fn.ntmps ac c = true)
    (hres : chkRes P fn.results.toList res = true) {E : Env} {ob : Obs} {n : Nat} {dom : Nat → Prop} {args : List V} {vals : List Value} (hw : E.wf) (hn : ∀ j, n ≤ j → E.ι j = none) (hs : SOk E ob) (hd : ∀ i o, ob i = some o → dom i)
    (hv : VRs E args vals) (hlen : args.length ≤ fn.ntmps) {Post : V → St → Prop}
    (h : awp P ac (fun e S => (e = .normal ∨ e = .ret) ∧ ares S res fun vs => Post (tupV vs) S) ⟨ofL (argL 0 args), ob, n, fn.ntmps, n⟩) :
    Calls P f vals.toArray E.w fun e w' => ∃ v r S E' a, e = .returned v ∧ E'.w = w' ∧ VR E' r v ∧ Post r S ∧ Rel ⟨E, dom, n⟩ E' S a := by
  refine calls_of_wp hf hb ?_
  refine awp_sound hm ac c hc (Rel.start hw hn hs hd hv hlen) rfl h _ fun e S E' a h1 h2 _ => ?_
  obtain ⟨he, h1⟩ := h1
  obtain ⟨vs, us, k1, k2, k3⟩ := ares_run h2 _ _ hres h1
  have hrun := results_run (P := P) (fn := fn) (tmps := a.tmps) k3
  have hpost : a.defers = [] ∧ ∃ v, (results fn a.tmps).run P E'.w = .ok v E'.w ∧ ∃ v' r S E'' a', Ending.returned v = .returned v' ∧ E''.w = E'.w ∧ VR E'' r v' ∧ Post r S ∧ Rel ⟨E, dom, n⟩ E'' S a' :=
    ⟨h2.df, _, hrun, _, _, S, E', a, rfl, rfl, k2.tupV, k1, h2⟩
  rcases he with rfl | rfl
  · exact hpost
  · exact hpost

/-- A pure function. -/
def PSpec (P : Program) (f : FuncId) (args : List V) (r : V) : Prop := ∀ ob, QSpec P ob f args r
theorem pspec (hm : P.follows .mixedOrders = true) {f : FuncId} {fn : Func} {c : Code} {ac : ACode} {res : List ARes} (hok : okFn P f = true) (hf : P.funcs[f]? = some fn) (hb : fn.body = some c) (hc : chkCode P fn.ntmps ac c = true)
    (hres : chkRes P fn.results.toList res = true) {args : List V} {r : V} (hlen : args.length ≤ fn.ntmps) (hr : r.bd 0 = true)
    (h : ∀ n, awp P ac (fun e S => (e = .normal ∨ e = .ret) ∧ ares S res fun vs => tupV vs = r) ⟨ofL (argL 0 args), fun _ => none, n, fn.ntmps, n⟩) : PSpec P f args r := by
  refine fun ob => ⟨hok, fun E vals hw hfin _ hv => ?_⟩
  obtain ⟨n, hn⟩ := hfin
  refine (calls_of_awp (dom := fun _ => False) (Post := fun u _ => u = r) hm hf hb hc hres hw hn ⟨(fun _ _ h => by cases h), (fun _ _ _ _ _ _ _ h => by cases h)⟩ (fun _ _ h => by cases h) hv hlen (h n)).mono fun e w' he => ?_
  obtain ⟨v, u, S, E', a, rfl, rfl, hvr, rfl, hrel⟩ := he
  have hnm : ∀ b, ¬ Gh.mine ⟨E, fun _ => False, n⟩ b := fun b ⟨_, _, hd, _⟩ => hd
  refine ⟨v, { E' with ι := E.ι }, rfl, rfl, ⟨rfl, hrel.fr.le.F, fun b o hf => ?_, fun b hm => (hrel.fr.le.M b hm).1, fun b hf => ?_, fun b hf => .inr (hrel.wf.K b hf), hrel.fr.size, fun b hb => hrel.fr.block b hb (hnm b), hrel.fr.os, hrel.fr.tape, hrel.fr.output⟩, ?_⟩
  · rcases hrel.fr.F b o hf with x | x | x
    · exact .inl x
    · exact absurd x (hnm b)
    · exact .inr ⟨x, hrel.wf.F b o hf⟩
  · rcases hrel.fr.M b hf with x | x | x
    · exact .inl x
    · exact absurd x (hnm b)
    · exact .inr ⟨x, hrel.wf.M b hf⟩
  · refine VR.mono ?_ (VR.cut (n := 0) _ _ hr hvr)
    exact ⟨fun i b m hi => by simp [Env.cut] at hi, fun _ _ h => h, fun _ _ _ => rfl, fun _ h => ⟨h, rfl⟩, fun _ c _ h => ⟨c, h, rfl⟩⟩
/-- A function that changes objects, of which some things alone are told. -/
theorem cspecE (hm : P.follows .mixedOrders = true) {f : FuncId} {fn : Func} {c : Code} {ac : ACode} {res : List ARes} (hok : okFn P f = true) (hf : P.funcs[f]? = some fn) (hb : fn.body = some c) (hc : chkCode P fn.ntmps ac c = true)
    (hres : chkRes P fn.results.toList res = true) {args : List V} {L : List (Nat × AObj)} {n : Nat} {Φ : V → List (Nat × AObj) → Nat → Prop} (hlen : args.length ≤ fn.ntmps)
    (h : awp P ac (fun e S => (e = .normal ∨ e = .ret) ∧ ares S res fun vs => ∃ L' n', Φ (tupV vs) L' n' ∧ (tupV vs).bd n' = true ∧ n ≤ n' ∧ (∀ p ∈ L', p.1 < n' ∧ p.2.bd n' = true) ∧ n' ≤ S.nx ∧ ∀ p ∈ L', S.ob p.1 = some p.2) ⟨ofL (argL 0 args), Obs.ov (fun _ => none) L, n, fn.ntmps, n⟩) : CSpecE P f args L n Φ := by
  refine ⟨hok, fun E vals hw hn hs hv => ?_⟩
  have hdom : ∀ i o, Obs.ov (fun _ => none) L i = some o → ∃ o, (i, o) ∈ L := fun i o hi => by
    by_cases hm : ∃ o, (i, o) ∈ L
    · exact hm
    · rw [Obs.ov_get fun o h => hm ⟨o, h⟩] at hi
      cases hi
  refine (calls_of_awp (dom := fun i => ∃ o, (i, o) ∈ L) (Post := fun u S => ∃ L' n', Φ u L' n' ∧ u.bd n' = true ∧ n ≤ n' ∧ (∀ p ∈ L', p.1 < n' ∧ p.2.bd n' = true) ∧ n' ≤ S.nx ∧ ∀ p ∈ L', S.ob p.1 = some p.2) hm hf hb hc hres hw hn hs hdom hv hlen h).mono fun e w' he => ?_
  obtain ⟨v, r, S, E', a, rfl, rfl, hvr, ⟨L', n', hΦ, hr, hnn, hL', hnx, hob⟩, hrel⟩ := he
  have hmine : ∀ b, Gh.mine ⟨E, fun i => ∃ o, (i, o) ∈ L, n⟩ b → ∃ i o m, (i, o) ∈ L ∧ E.ι i = some (some b, m) := fun b ⟨i, m, ⟨o, ho⟩, hi⟩ => ⟨i, o, m, ho, hi⟩
  have hsub : ∀ i o, Obs.ov (fun _ => none) L' i = some o → S.ob i = some o ∧ (i, o) ∈ L' := fun i o hi => by
    by_cases hm : ∃ o, (i, o) ∈ L'
    · obtain ⟨_, o2, h2, h3⟩ := Obs.ov_mem (ob := fun _ => none) (ob' := fun _ => none) hm
      rw [hi] at h2
      cases h2
      exact ⟨hob _ h3, h3⟩
    · rw [Obs.ov_get fun o h => hm ⟨o, h⟩] at hi
      cases hi
  have hcm : ∀ i b m, (E'.cut n').ι i = some (b, m) → E'.ι i = some (b, m) := fun i b m hi => by
    simp only [Env.cut] at hi
    split at hi
    · exact hi
    · cases hi
  refine ⟨v, E'.cut n', r, L', n', hΦ, rfl, rfl, ⟨⟨fun i b m hi => ?_, hrel.fr.le.F, hrel.fr.le.cell, hrel.fr.le.M, hrel.fr.le.shape⟩, ⟨hrel.wf.F, hrel.wf.M, hrel.wf.K⟩, fun j hj hd => ?_, fun j hj => ?_, fun b hb hne => ?_, fun b o hf => ?_, fun b hf => ?_, hrel.fr.size, hrel.fr.os, hrel.fr.tape, hrel.fr.output, fun i o b m ho hi => ?_⟩, ?_, VR.cut _ _ hr hvr⟩
  · have hin : i < n := by
      rcases Nat.lt_or_ge i n with x | x
      · exact x
      · rw [hn i x] at hi; cases hi
    rw [cut_ι (by omega)]
    exact hrel.fr.le.ι i b m hi
  · rw [cut_ι (by omega)]
    exact hrel.fr.ι j hj fun ⟨o, ho⟩ => hd o ho
  · simp only [Env.cut]
    rw [if_neg (by omega)]
  · refine hrel.fr.block b hb fun hm => ?_
    obtain ⟨i, o, m, h1, h2⟩ := hmine b hm
    exact hne i o m h1 h2
  · rcases hrel.fr.F b o hf with x | x | x
    · exact .inl x
    · exact .inr (.inr (hmine b x))
    · exact .inr (.inl x)
  · rcases hrel.fr.M b hf with x | x | x
    · exact .inl x
    · exact .inr (.inr (hmine b x))
    · exact .inr (.inl x)
  · rcases hrel.mine i o b m (hob _ ho) (hcm _ _ _ hi) with x | x
    · exact .inr (hmine b x)
    · exact .inl x
  · exact (hrel.ob.sub fun i o hi => (hsub i o hi).1).cut fun i o hi => hL' _ (hsub i o hi).2
/-- A function that changes objects. -/
theorem cspec (hm : P.follows .mixedOrders = true) {f : FuncId} {fn : Func} {c : Code} {ac : ACode} {res : List ARes} (hok : okFn P f = true) (hf : P.funcs[f]? = some fn) (hb : fn.body = some c) (hc : chkCode P fn.ntmps ac c = true)
    (hres : chkRes P fn.results.toList res = true) {args : List V} {r : V} {L L' : List (Nat × AObj)} {n n' : Nat} (hlen : args.length ≤ fn.ntmps) (hr : r.bd n' = true) (hnn : n ≤ n') (hL' : ∀ p ∈ L', p.1 < n' ∧ p.2.bd n' = true)
    (h : awp P ac (fun e S => (e = .normal ∨ e = .ret) ∧ ares S res fun vs => tupV vs = r ∧ n' ≤ S.nx ∧ ∀ p ∈ L', S.ob p.1 = some p.2) ⟨ofL (argL 0 args), Obs.ov (fun _ => none) L, n, fn.ntmps, n⟩) : CSpec P f args L n r L' n' := by
  refine ⟨hok, fun E vals hw hn hs hv => ?_⟩
  have hdom : ∀ i o, Obs.ov (fun _ => none) L i = some o → ∃ o, (i, o) ∈ L := fun i o hi => by
    by_cases hm : ∃ o, (i, o) ∈ L
    · exact hm
    · rw [Obs.ov_get fun o h => hm ⟨o, h⟩] at hi
      cases hi
  refine (calls_of_awp (dom := fun i => ∃ o, (i, o) ∈ L) (Post := fun u S => u = r ∧ n' ≤ S.nx ∧ ∀ p ∈ L', S.ob p.1 = some p.2) hm hf hb hc hres hw hn hs hdom hv hlen h).mono fun e w' he => ?_
  obtain ⟨v, u, S, E', a, rfl, rfl, hvr, ⟨rfl, hnx, hob⟩, hrel⟩ := he
  have hmine : ∀ b, Gh.mine ⟨E, fun i => ∃ o, (i, o) ∈ L, n⟩ b → ∃ i o m, (i, o) ∈ L ∧ E.ι i = some (some b, m) := fun b ⟨i, m, ⟨o, ho⟩, hi⟩ => ⟨i, o, m, ho, hi⟩
  have hsub : ∀ i o, Obs.ov (fun _ => none) L' i = some o → S.ob i = some o ∧ (i, o) ∈ L' := fun i o hi => by
    by_cases hm : ∃ o, (i, o) ∈ L'
    · obtain ⟨_, o2, h2, h3⟩ := Obs.ov_mem (ob := fun _ => none) (ob' := fun _ => none) hm
      rw [hi] at h2
      cases h2
      exact ⟨hob _ h3, h3⟩
    · rw [Obs.ov_get fun o h => hm ⟨o, h⟩] at hi
      cases hi
  have hcm : ∀ i b m, (E'.cut n').ι i = some (b, m) → E'.ι i = some (b, m) := fun i b m hi => by
    simp only [Env.cut] at hi
    split at hi
    · exact hi
    · cases hi
  refine ⟨v, E'.cut n', rfl, rfl, ⟨⟨fun i b m hi => ?_, hrel.fr.le.F, hrel.fr.le.cell, hrel.fr.le.M, hrel.fr.le.shape⟩, ⟨hrel.wf.F, hrel.wf.M, hrel.wf.K⟩, fun j hj hd => ?_, fun j hj => ?_, fun b hb hne => ?_, fun b o hf => ?_, fun b hf => ?_, hrel.fr.size, hrel.fr.os, hrel.fr.tape, hrel.fr.output, fun i o b m ho hi => ?_⟩, ?_, VR.cut _ _ hr hvr⟩
  · have hin : i < n := by
      rcases Nat.lt_or_ge i n with x | x
      · exact x
      · rw [hn i x] at hi; cases hi
    rw [cut_ι (by omega)]
    exact hrel.fr.le.ι i b m hi
  · rw [cut_ι (by omega)]
    exact hrel.fr.ι j hj fun ⟨o, ho⟩ => hd o ho
  · simp only [Env.cut]
    rw [if_neg (by omega)]
  · refine hrel.fr.block b hb fun hm => ?_
    obtain ⟨i, o, m, h1, h2⟩ := hmine b hm
    exact hne i o m h1 h2
  · rcases hrel.fr.F b o hf with x | x | x
    · exact .inl x
    · exact .inr (.inr (hmine b x))
    · exact .inr (.inl x)
  · rcases hrel.fr.M b hf with x | x | x
    · exact .inl x
    · exact .inr (.inr (hmine b x))
    · exact .inr (.inl x)
  · rcases hrel.mine i o b m (hob _ ho) (hcm _ _ _ hi) with x | x
    · exact .inr (hmine b x)
    · exact .inl x
  · exact (hrel.ob.sub fun i o hi => (hsub i o hi).1).cut fun i o hi => hL' _ (hsub i o hi).2
end
end Go.Proofs.Fathom
