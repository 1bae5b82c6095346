/- A part of the proof of 'Rows.QueryReadUptoSaid': for every text and every seeds (of bulk at most 1048576 together) fathomlaw19.QueryRead returns true and its arguments read afterwards as before. -/
import Derived.Test.YtaikjbfkbijlnaaGreatF07
set_option linter.unusedVariables false
set_option linter.unusedSimpArgs false
namespace Go.Proofs.Fathom
open Go

inductive AX where
  | q (op : AOp)
  | e (op : EOp)
structure AOper where
  d : Option Nat
  g : Option (Nat × Bool)
  op : AX

def astep (P : Program) (o : AOper) (S : St) (K : St → Prop) : Prop := match o.op with
  | .q op => aq P S.ev S.ob (fun v => K (S.put o.d v)) op
  | .e op => ae P S (fun S' v => K (S'.put o.d v)) op
def aoper (P : Program) (o : AOper) (S : St) (K : St → Prop) : Prop := match o.g with
  | none => astep P o S K
  | some (t, want) => match S.sl t with
    | .bool b => (b = want → astep P o S K) ∧ (b = (!want) → K (S.put o.d (.tup [])))
    | .tup [] => K (S.put o.d (.tup []))
    | _ => False
def aops (P : Program) : List AOper → St → (St → Prop) → Prop
  | [], S, K => K S
  | o :: rest, S, K => aoper P o S fun S' => aops P rest S' K

def chkAX (P : Program) (o : Op) : AX → Bool
  | .q op => chkOp P o op
  | .e op => chkEOp P o op
def chkGuard (ops : Array Oper) : Option (Nat × Bool) → Option (Nat × Bool) → Bool
  | none, none => true
  | some (j, w), some (t, w') => w == w' && ((ops[j]?).bind (·.dst)) == some t
  | _, _ => false
def chkOper (P : Program) (nt : Nat) (ops : Array Oper) (o : Oper) (a : AOper) : Bool :=
  o.dst == a.d && (match a.d with | some d => decide (d < nt) | none => true) && chkGuard ops o.guard a.g && chkAX P o.op a.op
def chkOpers (P : Program) (nt : Nat) (ops : Array Oper) : List Oper → List AOper → Bool
  | [], [] => true
  | o :: os, a :: as => chkOper P nt ops o a && chkOpers P nt ops os as
  | _, _ => false

section
variable {P : Program}

theorem oper_wp_value {o : Oper} {a : Act} {w w' : World} {K : Act → World → Prop} {Q : Exit → Act → World → Prop} {v : Value} (hr : (execOp a.eval o).run P w = .ok (.value v) w') (h : K (a.put o.dst v) w') : o.wp P a w K Q := by
  unfold Oper.wp
  rw [hr]
  exact h
theorem oper_wp_skip {o : Oper} {a : Act} {w w' : World} {K : Act → World → Prop} {Q : Exit → Act → World → Prop} (hr : (execOp a.eval o).run P w = .ok .skip w') (h : K (a.put o.dst undef) w') : o.wp P a w K Q := by
  unfold Oper.wp
  rw [hr]
  exact h

theorem Obs.ov_get {ob : Obs} : ∀ {L : List (Nat × AObj)} {i : Nat}, (∀ o, (i, o) ∉ L) → Obs.ov ob L i = ob i
  | [], i, _ => rfl
  | (j, o) :: L, i, h => by
    simp only [Obs.ov]
    have hne : i ≠ j := fun e => h o (by rw [e]; simp)
    rw [upd_ne _ _ hne]
    exact Obs.ov_get fun o' ho => h o' (by simp [ho])
theorem Obs.ov_mem {ob ob' : Obs} : ∀ {L : List (Nat × AObj)} {i : Nat}, (∃ o, (i, o) ∈ L) → Obs.ov ob L i = Obs.ov ob' L i ∧ ∃ o, Obs.ov ob L i = some o ∧ (i, o) ∈ L
  | [], i, ⟨o, h⟩ => by simp at h
  | (j, o) :: L, i, ⟨o', h⟩ => by
    simp only [Obs.ov]
    by_cases hij : i = j
    · subst hij
      rw [upd_same, upd_same]
      exact ⟨rfl, o, rfl, by simp⟩
    · rw [upd_ne _ _ hij, upd_ne _ _ hij]
      have hm : ∃ o', (i, o') ∈ L := by
        rcases List.mem_cons.1 h with h | h
        · exact absurd (Prod.mk.inj h).1 hij
        · exact ⟨o', h⟩
      obtain ⟨h1, o2, h2, h3⟩ := Obs.ov_mem (ob := ob) (ob' := ob') hm
      exact ⟨h1, o2, h2, by simp [h3]⟩

theorem call_rel {G : Gh} {E E' : Env} {S : St} {a : Act} (h : Rel G E S a) {L L' : List (Nat × AObj)} {n' : Nat} (hc : CFr E E' L L' S.nx n') (hs' : SOk E' (Obs.ov (fun _ => none) L'))
    (hL : ∀ p ∈ L, S.ob p.1 = some p.2) (hLL : ∀ p ∈ L, ∃ o, (p.1, o) ∈ L') (hL' : ∀ p ∈ L', p.1 < n' ∧ ((∃ o, (p.1, o) ∈ L) ∨ S.nx ≤ p.1)) (hn : S.nx ≤ n') :
    Rel G E' { S with ob := Obs.ov S.ob L', nx := n' } a := by
  have hfs := h.fr.size
  have hks := hc.size
  have hmi : ∀ b, (∃ i o m, (i, o) ∈ L ∧ E.ι i = some (some b, m)) → G.mine b ∨ G.E0.w.heap.size ≤ b := by
    rintro b ⟨i, o, m, hm, hb⟩
    exact h.mine i o b m (hL _ hm) hb
  have hlt : ∀ i o, S.ob i = some o → i < S.nx := fun i o hi => by
    rcases Nat.lt_or_ge i S.nx with h1 | h1
    · exact h1
    · obtain ⟨b, n, h2⟩ := (h.ob.ok i o hi).some_ι
      rw [h.nx i h1] at h2
      cases h2
  -- an object that the call did not get
  have rest : ∀ j o, Obs.ov S.ob L' j = some o → (∀ o, (j, o) ∉ L') → S.ob j = some o ∧ E'.ι j = E.ι j ∧ ∀ b n, E.ι j = some (some b, n) → b < E.w.heap.size ∧ ∀ i o m, (i, o) ∈ L → E.ι i ≠ some (some b, m) := by
    intro j o hj hnm
    rw [Obs.ov_get hnm] at hj
    have hjL : ∀ o, (j, o) ∉ L := fun o hm => by
      obtain ⟨o', h1⟩ := hLL _ hm
      exact hnm o' h1
    refine ⟨hj, hc.ι j (hlt j o hj) hjL, fun b n hb => ⟨(h.ob.ok j o hj).lt hb, fun i oi m hm hi => ?_⟩⟩
    have := h.ob.inj j i o oi b n m hj (hL _ hm) hb hi
    subst this
    exact hjL oi hm
  have inL : ∀ j o, Obs.ov S.ob L' j = some o → (∃ o, (j, o) ∈ L') → Obs.ov (fun _ => none) L' j = some o ∧ (j, o) ∈ L' := by
    intro j o hj hm
    obtain ⟨h1, o2, h2, h3⟩ := Obs.ov_mem (ob := S.ob) (ob' := fun _ => none) hm
    rw [hj] at h2
    cases h2
    exact ⟨h1 ▸ hj, h3⟩
  have hnn := h.nn
  refine ⟨hc.wf, ⟨h.fr.le.trans hc.le, hc.os.trans h.fr.os, hc.tape.trans h.fr.tape, hc.output.trans h.fr.output, by omega, fun b hb hm => ?_, fun b o hf => ?_, fun b hf => ?_, fun j hj hd => ?_, h.fr.e0⟩,
    fun t => (h.slots t).mono hc.le, h.sz, h.df, ⟨fun j o hj => ?_, fun j k oj ok b n m hj hk hbj hbk => ?_⟩, fun j hj => hc.nx j hj, by simp only; omega, fun j o hj => ?_, fun j o b n hj hb => ?_, h.bs⟩
  · refine (hc.block b (by omega) fun i o m hmem hi => ?_).trans (h.fr.block b hb hm)
    rcases hmi b ⟨i, o, m, hmem, hi⟩ with x | x
    · exact hm x
    · omega
  · rcases hc.F b o hf with x | x | x
    · exact h.fr.F b o x
    · exact .inr (.inr (by omega))
    · exact .inr (hmi b x)
  · rcases hc.M b hf with x | x | x
    · exact h.fr.M b x
    · exact .inr (.inr (by omega))
    · exact .inr (hmi b x)
  · have hjL : ∀ o, (j, o) ∉ L := by
      intro o hm
      rcases h.idm j o (hL _ hm) with x | x
      · exact hd x
      · omega
    rw [hc.ι j (by omega) hjL]
    exact h.fr.ι j hj hd
  · by_cases hm : ∃ o, (j, o) ∈ L'
    · exact hs'.ok j o (inL j o hj hm).1
    · have hm' : ∀ o, (j, o) ∉ L' := fun o h => hm ⟨o, h⟩
      obtain ⟨h1, h2, h3⟩ := rest j o hj hm'
      refine (h.ob.ok j o h1).keep hc.le h2 fun b n hb => ?_
      obtain ⟨h4, h5⟩ := h3 b n hb
      refine ⟨hc.block b h4 h5, fun o hf => ?_, fun hmm => ?_⟩
      · rcases hc.F b o hf with x | x | ⟨i, oi, m, hmem, x⟩
        · exact x
        · omega
        · exact absurd x (h5 i oi m hmem)
      · rcases hc.M b hmm with x | x | ⟨i, oi, m, hmem, x⟩
        · exact x
        · omega
        · exact absurd x (h5 i oi m hmem)
  · by_cases hmj : ∃ o, (j, o) ∈ L' <;> by_cases hmk : ∃ o, (k, o) ∈ L'
    · exact hs'.inj j k oj ok b n m (inL j oj hj hmj).1 (inL k ok hk hmk).1 hbj hbk
    · obtain ⟨h1, h2, h3⟩ := rest k ok hk fun o h => hmk ⟨o, h⟩
      rw [h2] at hbk
      obtain ⟨h4, h5⟩ := h3 b m hbk
      rcases hc.new j oj b n (inL j oj hj hmj).2 hbj with x | ⟨i, oi, q, hmem, x⟩
      · omega
      · exact absurd x (h5 i oi q hmem)
    · obtain ⟨h1, h2, h3⟩ := rest j oj hj fun o h => hmj ⟨o, h⟩
      rw [h2] at hbj
      obtain ⟨h4, h5⟩ := h3 b n hbj
      rcases hc.new k ok b m (inL k ok hk hmk).2 hbk with x | ⟨i, oi, q, hmem, x⟩
      · omega
      · exact absurd x (h5 i oi q hmem)
    · obtain ⟨h1, h2, _⟩ := rest j oj hj fun o h => hmj ⟨o, h⟩
      obtain ⟨k1, k2, _⟩ := rest k ok hk fun o h => hmk ⟨o, h⟩
      rw [h2] at hbj
      rw [k2] at hbk
      exact h.ob.inj j k oj ok b n m h1 k1 hbj hbk
  · by_cases hm : ∃ o, (j, o) ∈ L'
    · obtain ⟨o', ho'⟩ := hm
      rcases (hL' _ ho').2 with ⟨o2, ho2⟩ | x
      · exact h.idm j o2 (hL _ ho2)
      · exact .inr (by simp only at x; omega)
    · exact h.idm j o (rest j o hj fun o h => hm ⟨o, h⟩).1
  · by_cases hm : ∃ o, (j, o) ∈ L'
    · rcases hc.new j o b n (inL j o hj hm).2 hb with x | x
      · exact .inr (by omega)
      · exact hmi b x
    · obtain ⟨h1, h2, h3⟩ := rest j o hj fun o h => hm ⟨o, h⟩
      rw [h2] at hb
      exact h.mine j o b n h1 hb

/-- One abstract operation is the machine's. -/
theorem astep_sound {G : Gh} {E : Env} {S : St} {a : Act} (h : Rel G E S a) {o : Oper} {ao : AOper} (hd : o.dst = ao.d) (hdn : ∀ k, ao.d = some k → k < S.nt) (hc : chkAX P o.op ao.op = true) {K : St → Prop} (hk : astep P ao S K)
    (next : Act → World → Prop) (Q : Exit → Act → World → Prop) (hn : ∀ S' E' a', K S' → Rel G E' S' a' → S'.nt = S.nt → next a' E'.w) : o.wp P a E.w next Q := by
  obtain ⟨d, g, op⟩ := ao
  simp only at hd hdn
  subst hd
  have putnt : ∀ (S : St) (d : Option Nat) (v : V), (S.put d v).nt = S.nt := fun S d v => by cases d <;> rfl
  cases op with
  | q op =>
    simp only [astep] at hk
    simp only [chkAX] at hc
    have hres := aq_sound (K := fun v => K (S.put o.dst v)) (fun g => rfl) ⟨S.nx, h.nx⟩ h.wf h.ob h.ev hc hk
    rcases hres with ⟨c, v, E', hK, hv, hq, hr⟩ | ⟨f, vals, hr, hcall⟩
    · exact oper_wp_value hr (hn _ E' _ hK ((h.q hq).put hdn hv) (putnt _ _ _))
    · unfold Oper.wp
      rw [hr]
      refine hcall.mono fun e w' he => ?_
      obtain ⟨c, v, E', rfl, rfl, hq, hK, hv⟩ := he
      exact hn _ E' _ hK ((h.q hq).put hdn hv) (putnt _ _ _)
  | e op =>
    simp only [astep] at hk
    simp only [chkAX] at hc
    have fin : ∀ {i : Nat} {o' : AObj} {c : V} {nx' : Nat}, ERes P E i o' c ((execOp a.eval o).run P E.w) → ((∃ o, S.ob i = some o) ∨ (E.ι i = none ∧ S.nx ≤ i)) → S.nx ≤ nx' → i < nx' →
        K ({ S with ob := upd S.ob i (some o'), nx := nx' }.put o.dst c) → o.wp P a E.w next Q := by
      intro i o' c nx' hres hi hnx hin hK
      obtain ⟨E', hst, hob, hr⟩ := hres
      have hrel := h.st hst hi hob hnx hin
      rcases hr with ⟨v, hv, hr⟩ | ⟨rfl, hr⟩
      · exact oper_wp_value hr (hn _ E' _ hK (hrel.put hdn hv) (putnt _ _ _))
      · exact oper_wp_skip hr (hn _ E' _ hK (hrel.put hdn (by simp only [VR])) (putnt _ _ _))
    have hnone : E.ι S.nx = none := h.nx _ (Nat.le_refl _)
    have hlt : ∀ i o, S.ob i = some o → i < S.nx := fun i o hi => by
      rcases Nat.lt_or_ge i S.nx with h1 | h1
      · exact h1
      · obtain ⟨b, n, h2⟩ := (h.ob.ok i o hi).some_ι
        rw [h.nx i h1] at h2
        cases h2
    cases op with
    | alloc zero =>
      simp only [ae] at hk
      exact fin (ae_alloc h.wf hnone hc) (.inr ⟨hnone, Nat.le_refl _⟩) (Nat.le_succ _) (Nat.lt_succ_self _) hk
    | boxO x =>
      simp only [ae] at hk
      exact fin (ae_boxO h.wf hnone h.ev hc hk.1) (.inr ⟨hnone, Nat.le_refl _⟩) (Nat.le_succ _) (Nat.lt_succ_self _) hk.2
    | st n p x =>
      simp only [ae] at hk
      obtain ⟨h1, h2, hk⟩ := hk
      split at hk
      · rename_i i off hp
        obtain ⟨cs, h3, h4, hk⟩ := hk
        exact fin (nx' := S.nx) (ae_st_ptr h.wf h.ob h.ev hc hp h1 h2 h3 h4) (.inl ⟨_, h3⟩) (Nat.le_refl _) (hlt _ _ h3) hk
      · rename_i i m z j f hp
        obtain ⟨xs, c, h3, h4, h5, h6, hk⟩ := hk
        exact fin (nx' := S.nx) (ae_st_row h.wf h.ob h.ev hc hp h1 h2 h3 h4 h5 h6) (.inl ⟨_, h3⟩) (Nat.le_refl _) (hlt _ _ h3) hk
      · cases hk
    | app z by_ x y =>
      simp only [ae] at hk
      split at hk
      · rename_i tk z' xs tk' z'' ys hx hy
        obtain ⟨rfl, hz, hb, hk⟩ := hk
        split at hk
        · rename_i i
          exact fin (nx' := S.nx) (ae_app h.wf h.ob h.ev hc hx hy hz hb (.inr ⟨rfl, hk.1⟩)) (.inl ⟨_, hk.1⟩) (Nat.le_refl _) (hlt _ _ hk.1) hk.2
        · exact fin (ae_app h.wf h.ob h.ev hc hx hy hz hb (.inl ⟨rfl, hnone⟩)) (.inr ⟨hnone, Nat.le_refl _⟩) (Nat.le_succ _) (Nat.lt_succ_self _) hk
        · cases hk
      · cases hk
    | appr z by_ x y =>
      simp only [ae] at hk
      split at hk
      · rename_i i n z' o' l tk' z'' ys hx hy
        obtain ⟨rfl, hz, rfl, rfl, hb, xs, h1, h2, hk⟩ := hk
        exact fin (nx' := S.nx) (ae_appr h.wf h.ob h.ev hc hx hy hz hb h1 h2) (.inl ⟨_, h1⟩) (Nat.le_refl _) (hlt _ _ h1) hk
      · cases hk
    | appn z by_ x y =>
      simp only [ae] at hk
      split at hk
      · rename_i z' tk' z'' ys hx hy
        obtain ⟨hz, hb, hk⟩ := hk
        exact fin (ae_appn h.wf hnone h.ev hc hx hy hz hb) (.inr ⟨hnone, Nat.le_refl _⟩) (Nat.le_succ _) (Nat.lt_succ_self _) hk
      · cases hk
    | mks z by_ zero n =>
      simp only [ae] at hk
      split at hk
      · rename_i kk m hm
        exact fin (ae_mks h.wf hnone h.ev hc hm hk.1 hk.2.1) (.inr ⟨hnone, Nat.le_refl _⟩) (Nat.le_succ _) (Nat.lt_succ_self _) hk.2.2
      · cases hk
    | mkm =>
      simp only [ae] at hk
      exact fin (ae_mkm h.wf hnone hc) (.inr ⟨hnone, Nat.le_refl _⟩) (Nat.le_succ _) (Nat.lt_succ_self _) hk
    | updm m k v =>
      simp only [ae] at hk
      split at hk
      · rename_i i s kk n hm hks hv
        obtain ⟨rfl, ks, mm, h1, hk⟩ := hk
        exact fin (nx' := S.nx) (ae_updm h.wf h.ob h.ev hc hm hks hv h1) (.inl ⟨_, h1⟩) (Nat.le_refl _) (hlt _ _ h1) hk
      · cases hk
    | call c args =>
      simp only [ae] at hk
      split at hk
      · rename_i f caps hcv
        obtain ⟨L, Φ, ⟨hok, hspec⟩, hL, hk⟩ := hk
        simp only [chkEOp] at hc
        split at hc
        · rename_i p as ts he
          simp only [Bool.and_eq_true] at hc
          have hp := h.ev _ _ hc.1
          rw [hcv] at hp
          simp only [VR] at hp
          obtain ⟨vs, hpv, hcaps⟩ := hp
          have hargs := (h.ev.list hc.2).append hcaps
          have hsub : SOk E (Obs.ov (fun _ => none) L) := by
            have hget : ∀ i o, Obs.ov (fun _ => none) L i = some o → S.ob i = some o := by
              intro i o hi
              by_cases hm : ∃ o, (i, o) ∈ L
              · obtain ⟨_, o2, h2, h3⟩ := Obs.ov_mem (ob := fun _ => none) (ob' := fun _ => none) hm
                rw [hi] at h2
                cases h2
                exact hL _ h3
              · rw [Obs.ov_get fun o h => hm ⟨o, h⟩] at hi
                cases hi
            exact ⟨fun i o hi => h.ob.ok i o (hget i o hi), fun i j o o' b n m hi hj => h.ob.inj i j o o' b n m (hget i o hi) (hget j o' hj)⟩
          have hcall := hspec E _ h.wf h.nx hsub hargs
          have hrun : (execOp a.eval o).run P E.w = .ok (.enter f (as.toList.map a.eval ++ vs.toList).toArray) E.w := by
            unfold okFn at hok
            split at hok
            · rename_i fn hfn
              simp only [Bool.and_eq_true, Bool.not_eq_true', beq_eq_false_iff_ne] at hok
              have hb' : ¬ fn.body = none := by
                intro e
                rw [e] at hok
                cases hok.2
              have harr : (as.toList.map a.eval ++ vs.toList).toArray = as.map a.eval ++ vs := by
                apply Array.ext'
                simp
              rw [harr]
              simp [execOp, he, resolve, hpv, Deferred.ofValue, invoke, callFunc, hfn, hok.1, hb']
            · cases hok
          unfold Oper.wp
          rw [hrun]
          refine hcall.mono fun e w' he => ?_
          obtain ⟨v, E', r, L', n', hΦ, rfl, rfl, hfr, hs', hv⟩ := he
          obtain ⟨hLL, hL', hnn, hk⟩ := hk r L' n' hΦ
          exact hn _ E' _ hk ((call_rel h hfr hs' hL hLL hL' hnn).put hdn hv) (putnt _ _ _)
        · cases hc
      · cases hk
end
end Go.Proofs.Fathom
