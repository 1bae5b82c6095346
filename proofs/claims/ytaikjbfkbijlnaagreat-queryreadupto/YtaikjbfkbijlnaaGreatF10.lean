/- A part of the proof of 'Rows.QueryReadUptoSaid': for every text and every seeds (of bulk at most 1048576 together) fathomlaw19.QueryRead returns true and its arguments read afterwards as before. -/
import Derived.Test.YtaikjbfkbijlnaaGreatF09
set_option linter.unusedVariables false
set_option linter.unusedSimpArgs false
namespace Go.Proofs.Fathom
open Go

section
variable {P : Program} {ops : Array Oper} {Q : Exit → Act → World → Prop} {G : Gh}

theorem yielded_of {E : Env} {S : St} {a : Act} (h : Rel G E S a) {j t : Nat} (hd : ((ops[j]?).bind (·.dst)) = some t) {b : Bool} (hb : S.sl t = .bool b) : yielded ops a.tmps j = some b := by
  have h1 := h.slots t
  rw [hb] at h1
  simp only [VR] at h1
  unfold yielded
  rw [hd]
  simp only [Option.bind_some]
  cases hg : a.tmps[t]? with
  | none =>
    rw [Array.getD_eq_getD_getElem?, hg] at h1
    cases h1
  | some v =>
    rw [Array.getD_eq_getD_getElem?, hg] at h1
    simp only [Option.getD_some] at h1
    subst h1
    rfl
theorem aoper_sound {E : Env} {S : St} {a : Act} (h : Rel G E S a) {i : Nat} {o : Oper} {ao : AOper} (hi : ops[i]? = some o) (hc : chkOper P S.nt ops o ao = true) {K : St → Prop} (hk : aoper P ao S K)
    (next : Act → World → Prop) (hn : ∀ S' E' a', K S' → Rel G E' S' a' → S'.nt = S.nt → next a' E'.w) : wpOp P ops Q i next a E.w := by
  simp only [chkOper, Bool.and_eq_true, beq_iff_eq] at hc
  obtain ⟨⟨⟨hd, hnt⟩, hg⟩, hop⟩ := hc
  have hdn : ∀ k, ao.d = some k → k < S.nt := by
    intro k hk'
    rw [hk'] at hnt
    simpa using hnt
  unfold wpOp
  simp only [hi]
  unfold aoper at hk
  cases hao : ao.g with
  | none =>
    rw [hao] at hk hg
    have hog : o.guard = none := by
      cases hog : o.guard with
      | none => rfl
      | some x => rw [hog] at hg; simp [chkGuard] at hg
    have hw : Region.wanted o (yielded ops a.tmps) = true := by simp [Region.wanted, hog]
    rw [if_pos hw]
    exact .inl (astep_sound h hd hdn hop hk next Q hn)
  | some tw =>
    obtain ⟨t, want⟩ := tw
    rw [hao] at hk hg
    cases hog : o.guard with
    | none => rw [hog] at hg; simp [chkGuard] at hg
    | some jw =>
      obtain ⟨j, w⟩ := jw
      rw [hog] at hg
      simp only [chkGuard, Bool.and_eq_true, beq_iff_eq] at hg
      obtain ⟨rfl, hdst⟩ := hg
      simp only at hk
      split at hk
      · rename_i b hb
        have hy := yielded_of h hdst hb
        by_cases hbw : b = w
        · have hw : Region.wanted o (yielded ops a.tmps) = true := by simp [Region.wanted, hog, hy, hbw]
          rw [if_pos hw]
          exact .inl (astep_sound h hd hdn hop (hk.1 hbw) next Q hn)
        · have hw : ¬ Region.wanted o (yielded ops a.tmps) = true := by simp [Region.wanted, hog, hy, hbw]
          rw [if_neg hw]
          rw [hd]
          have hnt' : (S.put ao.d (.tup [])).nt = S.nt := by cases ao.d <;> rfl
          exact hn _ E _ (hk.2 (by cases b <;> cases w <;> simp_all)) (h.put hdn (by simp only [VR]; exact ⟨#[], rfl, by simp [VRs]⟩)) hnt'
      · rename_i hb
        have hy : yielded ops a.tmps j = none := by
          have h1 := h.slots t
          rw [hb] at h1
          simp only [VR] at h1
          obtain ⟨vs, h1, h2⟩ := h1
          have h3 : vs.toList = [] := by simpa [VRs] using h2
          unfold yielded
          rw [hdst]
          simp only [Option.bind_some]
          cases hg : a.tmps[t]? with
          | none => rfl
          | some v =>
            rw [Array.getD_eq_getD_getElem?, hg] at h1
            simp only [Option.getD_some] at h1
            subst h1
            rfl
        have hw : ¬ Region.wanted o (yielded ops a.tmps) = true := by simp [Region.wanted, hog, hy]
        rw [if_neg hw]
        rw [hd]
        have hnt' : (S.put ao.d (.tup [])).nt = S.nt := by cases ao.d <;> rfl
        exact hn _ E _ hk (h.put hdn (by simp only [VR]; exact ⟨#[], rfl, by simp [VRs]⟩)) hnt'
      · cases hk
theorem aops_sound : ∀ (l : List Oper) (as : List AOper) (k : Nat), (∀ j, l[j]? = ops[k + j]?) → ∀ {E : Env} {S : St} {a : Act}, Rel G E S a → chkOpers P S.nt ops l as = true → ∀ {K : St → Prop}, aops P as S K →
    (∀ S' E' a', K S' → Rel G E' S' a' → S'.nt = S.nt → Q .normal a' E'.w) → wpOps P ops Q (List.range' k l.length) a E.w
  | [], [], k, _, E, S, a, h, _, K, hk, hQ => by
    simp only [List.length_nil, List.range'_zero, wpOps]
    exact hQ _ _ _ hk h rfl
  | [], _ :: _, _, _, _, _, _, _, hc, _, _, _ => by simp [chkOpers] at hc
  | _ :: _, [], _, _, _, _, _, _, hc, _, _, _ => by simp [chkOpers] at hc
  | o :: l, ao :: as, k, hl, E, S, a, h, hc, K, hk, hQ => by
    simp only [chkOpers, Bool.and_eq_true] at hc
    have h0 : ops[k]? = some o := by simpa using (hl 0).symm
    simp only [List.length_cons, List.range'_succ]
    rw [wpOps_cons]
    refine aoper_sound h h0 hc.1 hk _ fun S' E' a' hK hr hnt => ?_
    refine aops_sound l as (k + 1) (fun j => ?_) hr (by rw [hnt]; exact hc.2) hK fun S'' E'' a'' h1 h2 h3 => hQ _ _ _ h1 h2 (h3.trans hnt)
    have := hl (j + 1)
    rw [List.getElem?_cons_succ] at this
    rw [this]
    congr 1
    omega

/-! ### Any order -/
def aAt (P : Program) (as : List AOper) (i : Nat) (K : St → Prop) (S : St) : Prop := match as[i]? with
  | none => K S
  | some o => aoper P o S K
def AnyA (P : Program) (ops : Array Oper) (as : List AOper) (K : St → Prop) : Nat → Array Bool → St → Prop
  | 0, listed, S => Region.ready .any ops listed = [] ∧ K S
  | fuel + 1, listed, S => (Region.ready .any ops listed = [] → K S) ∧ ∀ i ∈ Region.ready .any ops listed, aAt P as i (AnyA P ops as K fuel (listed.setIfInBounds i true)) S
theorem chkOpers_get {nt : Nat} : ∀ {l : List Oper} {as : List AOper}, chkOpers P nt ops l as = true → ∀ {i : Nat} {o : Oper}, l[i]? = some o → ∃ ao, as[i]? = some ao ∧ chkOper P nt ops o ao = true
  | [], _, _, _, _, h => by simp at h
  | _ :: _, [], hc, _, _, _ => by simp [chkOpers] at hc
  | o :: l, a :: as, hc, i, o', h => by
    simp only [chkOpers, Bool.and_eq_true] at hc
    cases i with
    | zero => simp at h; subst h; exact ⟨a, rfl, hc.1⟩
    | succ i => simpa using chkOpers_get hc.2 (by simpa using h)
theorem any_sound {as : List AOper} {nt : Nat} (hc : chkOpers P nt ops ops.toList as = true) {K : St → Prop} : ∀ (fuel : Nat) (listed : Array Bool) {E : Env} {S : St} {a : Act}, Rel G E S a → S.nt = nt → AnyA P ops as K fuel listed S →
    (∀ S' E' a', K S' → Rel G E' S' a' → S'.nt = nt → Q .normal a' E'.w) → wpAny P .any ops Q fuel listed a E.w
  | 0, _, _, _, _, h, hnt, hk, hQ => ⟨hk.1, hQ _ _ _ hk.2 h hnt⟩
  | fuel + 1, listed, E, S, a, h, hnt, hk, hQ => by
    refine ⟨fun h0 => hQ _ _ _ (hk.1 h0) h hnt, fun i hi => ?_⟩
    have hki := hk.2 i hi
    obtain ⟨_, o, ho, _⟩ := mem_ready.1 hi
    obtain ⟨ao, hao, hco⟩ := chkOpers_get hc (i := i) (o := o) (by simpa using ho)
    unfold aAt at hki
    rw [hao] at hki
    exact aoper_sound h ho (by rw [hnt]; exact hco) hki _ fun S' E' a' hK hr hnt' => any_sound hc fuel _ hr (hnt'.trans hnt) hK hQ

def AOper.quiet (o : AOper) : Bool := match o.op with
  | .q _ => true
  | .e _ => false
def AOper.looks (o : AOper) : List Nat := (match o.op with
  | .q op => op.opds.filterMap fun | .t n => some n | .c _ => none
  | .e _ => []) ++ (match o.g with | some (t, _) => [t] | none => [])
def AOper.apart (x y : AOper) : Bool :=
  (match x.d with
   | some d => !(y.looks).contains d && y.d != some d
   | none => true) &&
  (match y.d with
   | some d => !(x.looks).contains d
   | none => true)
/-- It leaves v. -/
def Yld (P : Program) (o : AOper) (v : V) (S : St) : Prop :=
  ((match o.g with | none => True | some (t, w) => S.sl t = .bool w) ∧ ∃ op, o.op = .q op ∧ aq P S.ev S.ob (fun u => u = v) op) ∨
  (∃ t w, o.g = some (t, w) ∧ (S.sl t = .bool (!w) ∨ S.sl t = .tup []) ∧ v = .tup [])
theorem Yld.aoper {o : AOper} {v : V} {S : St} (h : Yld P o v S) {K : St → Prop} (hk : K (S.put o.d v)) : aoper P o S K := by
  unfold Go.Proofs.Fathom.aoper
  rcases h with ⟨hg, op, hop, hq⟩ | ⟨t, w, hg, hs, rfl⟩
  · have hst : astep P o S K := by
      unfold astep
      rw [hop]
      exact (aq_iff op).2 ⟨v, hq, hk⟩
    cases hog : o.g with
    | none => exact hst
    | some tw =>
      obtain ⟨t, w⟩ := tw
      rw [hog] at hg
      simp only at hg ⊢
      rw [hg]
      exact ⟨fun _ => hst, fun e => by cases w <;> simp at e⟩
  · rw [hg]
    simp only
    rcases hs with hs | hs
    · rw [hs]
      exact ⟨fun e => by cases w <;> simp at e, fun _ => hk⟩
    · rw [hs]
      exact hk
theorem yld_of_aoper {o : AOper} {S : St} {K : St → Prop} (hq : o.quiet = true) (h : aoper P o S K) : ∃ v, Yld P o v S ∧ K (S.put o.d v) := by
  have step : astep P o S K → ∃ v, (∃ op, o.op = .q op ∧ aq P S.ev S.ob (fun u => u = v) op) ∧ K (S.put o.d v) := by
    intro hs
    unfold astep at hs
    cases hop : o.op with
    | q op =>
      rw [hop] at hs
      obtain ⟨v, h1, h2⟩ := (aq_iff op).1 hs
      exact ⟨v, ⟨op, rfl, h1⟩, h2⟩
    | e op =>
      unfold AOper.quiet at hq
      rw [hop] at hq
      cases hq
  unfold aoper at h
  cases hog : o.g with
  | none =>
    rw [hog] at h
    obtain ⟨v, h1, h2⟩ := step h
    exact ⟨v, .inl ⟨by rw [hog]; trivial, h1⟩, h2⟩
  | some tw =>
    obtain ⟨t, w⟩ := tw
    rw [hog] at h
    simp only at h
    split at h
    · rename_i b hb
      by_cases hbw : b = w
      · obtain ⟨v, h1, h2⟩ := step (h.1 hbw)
        exact ⟨v, .inl ⟨by rw [hog]; simp only; rw [hb, hbw], h1⟩, h2⟩
      · have hb' : b = !w := by cases b <;> cases w <;> simp_all
        exact ⟨.tup [], .inr ⟨t, w, hog, .inl (by rw [hb, hb']), rfl⟩, h.2 hb'⟩
    · rename_i hb
      exact ⟨.tup [], .inr ⟨t, w, hog, .inr hb, rfl⟩, h⟩
    · cases h
theorem Yld.congr {o : AOper} {v : V} {S S' : St} (h : Yld P o v S) (hs : ∀ t ∈ o.looks, S'.sl t = S.sl t) (hob : S'.ob = S.ob) : Yld P o v S' := by
  have hg : ∀ t w, o.g = some (t, w) → S'.sl t = S.sl t := by
    intro t w h1
    refine hs t ?_
    unfold AOper.looks
    rw [h1]
    simp
  rcases h with ⟨h1, op, hop, hq⟩ | ⟨t, w, h1, h2, rfl⟩
  · refine .inl ⟨?_, op, hop, ?_⟩
    · cases hog : o.g with
      | none => trivial
      | some tw =>
        obtain ⟨t, w⟩ := tw
        rw [hog] at h1
        simp only at h1 ⊢
        rw [hg t w hog, h1]
    · rw [hob]
      rw [← aq_congr (ρ := S.ev) (ρ' := S'.ev) op]
      · exact hq
      · intro x hx
        cases x with
        | c c => rfl
        | t n =>
          simp only [St.ev]
          refine (hs n ?_).symm
          unfold AOper.looks
          rw [hop]
          simp only [List.mem_append, List.mem_filterMap]
          exact .inl ⟨.t n, hx, rfl⟩
  · exact .inr ⟨t, w, h1, by rw [hg t w h1]; exact h2, rfl⟩
theorem put_sl {S : St} {d : Option Nat} {v : V} {t : Nat} (h : ∀ k, d = some k → t ≠ k) : (S.put d v).sl t = S.sl t := by
  cases d with
  | none => rfl
  | some d => exact upd_ne _ _ (h d rfl)
theorem put_comm {S : St} {x y : Option Nat} {u v : V} (h : ∀ k, x = some k → y ≠ some k) : (S.put x u).put y v = (S.put y v).put x u := by
  cases x with
  | none => rfl
  | some d =>
    cases y with
    | none => rfl
    | some e =>
      have hne : d ≠ e := fun he => h d rfl (by rw [he])
      simp only [St.put, upd_comm S.sl u v hne]
theorem AOper.apart_spec {x y : AOper} (h : x.apart y = true) : (∀ d, x.d = some d → d ∉ y.looks) ∧ (∀ d, x.d = some d → y.d ≠ some d) ∧ (∀ d, y.d = some d → d ∉ x.looks) := by
  refine ⟨fun d hd => ?_, fun d hd => ?_, fun d hd => ?_⟩ <;> simp [AOper.apart, hd] at h
  · exact h.1.1
  · exact h.1.2
  · exact h.2

/-- Does operation j wait for k, perhaps over others? -/
def dep (ops : Array Oper) : Nat → Nat → Nat → Bool
  | 0, _, _ => false
  | fuel + 1, j, k => match ops[j]? with
    | some o => o.after.any fun e => Region.binds .any e && (e.on == k || dep ops fuel e.on k)
    | none => false
def DC (ops : Array Oper) (listed : Array Bool) : Prop := ∀ j o, ops[j]? = some o → listed.getD j false = true → ∀ e ∈ o.after, Region.binds .any e = true → listed.getD e.on false = true
theorem dep_listed {listed : Array Bool} (hd : DC ops listed) : ∀ (fuel j k : Nat), dep ops fuel j k = true → (∀ o, ops[j]? = some o → ∀ e ∈ o.after, Region.binds .any e = true → listed.getD e.on false = true) → listed.getD k false = true
  | 0, _, _, h, _ => by simp [dep] at h
  | fuel + 1, j, k, h, hj => by
    unfold dep at h
    split at h
    · rename_i o ho
      simp only [Array.any_eq_true'] at h
      obtain ⟨e, he, h1⟩ := h
      simp only [Bool.and_eq_true, Bool.or_eq_true, beq_iff_eq] at h1
      obtain ⟨hb, h2⟩ := h1
      have hl := hj o ho e he hb
      rcases h2 with rfl | h2
      · exact hl
      · exact dep_listed hd fuel e.on k h2 fun o' ho' e' he' hb' => hd e.on o' ho' hl e' he' hb'
    · cases h
theorem DC.set {listed : Array Bool} (hd : DC ops listed) {j : Nat} (hj : j ∈ Region.ready .any ops listed) : DC ops (listed.setIfInBounds j true) := by
  intro k o ho hk e he hb
  by_cases hjk : j = k
  · subst hjk
    obtain ⟨_, o', ho', hall⟩ := mem_ready.1 hj
    rw [ho] at ho'
    cases ho'
    exact getD_set_true (hall e he hb)
  · rw [getD_set_ne false hjk] at hk
    exact getD_set_true (hd k o ho hk e he hb)

/-- A quiet operation that may come up now may be taken first. -/
theorem anyA_first {as : List AOper} (hlen : as.length = ops.size) {K : St → Prop} {i : Nat} {oi : AOper} {v : V} (hi : as[i]? = some oi) :
    ∀ (fuel : Nat) (listed : Array Bool) (S : St), DC ops listed →
      (∀ j oj, as[j]? = some oj → j ≠ i → listed.getD j true = false → dep ops ops.size j i = true ∨ (oj.quiet = true ∧ oi.apart oj = true)) →
      i ∈ Region.ready .any ops listed → Yld P oi v S →
      AnyA P ops as K fuel (listed.setIfInBounds i true) (S.put oi.d v) → AnyA P ops as K (fuel + 1) listed S := by
  intro fuel
  induction fuel with
  | zero =>
    intro listed S _ _ hr hy H
    refine ⟨fun h => (by rw [h] at hr; cases hr), fun j hj => ?_⟩
    by_cases hji : j = i
    · subst hji
      unfold aAt
      rw [hi]
      exact hy.aoper H
    · have := ready_mono hj hji
      rw [H.1] at this
      cases this
  | succ fuel ih =>
    intro listed S hdc hfree hr hy H
    refine ⟨fun h => (by rw [h] at hr; cases hr), fun j hj => ?_⟩
    by_cases hji : j = i
    · subst hji
      unfold aAt
      rw [hi]
      exact hy.aoper H
    · have h1 := H.2 j (ready_mono hj hji)
      obtain ⟨hjun, o, ho, hall⟩ := mem_ready.1 hj
      have hjl : j < as.length := by rw [hlen]; exact (Array.getElem?_eq_some_iff.1 ho).1
      obtain ⟨oj, hoj⟩ : ∃ oj, as[j]? = some oj := ⟨as[j], by simp [hjl]⟩
      have hiun : listed.getD i false = true → False := by
        intro h
        have h0 := (mem_ready.1 hr).1
        rcases Nat.lt_or_ge i listed.size with h' | h'
        · simp [h'] at h0 h; rw [h0] at h; cases h
        · simp [Array.getElem?_eq_none h'] at h
      have hq : oj.quiet = true ∧ oi.apart oj = true := by
        rcases hfree j oj hoj hji hjun with h | h
        · exact (hiun (dep_listed hdc _ j i h fun o' ho' e he hb => by rw [ho] at ho'; cases ho'; exact hall e he hb)).elim
        · exact h
      obtain ⟨ha1, ha2, ha3⟩ := AOper.apart_spec hq.2
      unfold aAt at h1 ⊢
      rw [hoj] at h1 ⊢
      simp only at h1 ⊢
      obtain ⟨u, hu, hK⟩ := yld_of_aoper hq.1 h1
      have hob : ∀ (S : St) (d : Option Nat) (v : V), (S.put d v).ob = S.ob := fun S d v => by cases d <;> rfl
      have hu' : Yld P oj u S := hu.congr (fun t ht => (put_sl fun k hk he => ha1 k hk (he ▸ ht)).symm) (hob _ _ _).symm
      have hy' : Yld P oi v (S.put oj.d u) := hy.congr (fun t ht => put_sl fun k hk he => ha3 k hk (he ▸ ht)) (hob _ _ _)
      refine hu'.aoper (ih _ _ (hdc.set hj) (fun k ok hk hki hun => hfree k ok hk hki ?_) (ready_mono hr (Ne.symm hji)) hy' ?_)
      · by_cases hjk : j = k
        · subst hjk; exact hjun
        · rw [getD_set_ne true hjk] at hun; exact hun
      · rw [Array.setIfInBounds_comm _ _ hji]
        rw [← put_comm ha2]
        exact hK
/-- May the operations be walked in the order of the text? -/
def lexOk (ops : Array Oper) (as : List AOper) : Nat → Nat → Array Bool → Bool
  | 0, _, listed => Region.ready .any ops listed == []
  | n + 1, k, listed =>
    (Region.ready .any ops listed == [k] ||
      ((Region.ready .any ops listed).contains k && (match as[k]? with
        | some ok => ok.quiet && (List.range as.length).all fun j => j == k || listed.getD j true || dep ops ops.size j k || (match as[j]? with | some oj => oj.quiet && ok.apart oj | none => true)
        | none => false))) && lexOk ops as n (k + 1) (listed.setIfInBounds k true)
theorem anyA_lex {as : List AOper} (hlen : as.length = ops.size) {K : St → Prop} : ∀ (l : List AOper) (k : Nat) (listed : Array Bool) (S : St), (∀ j, l[j]? = as[k + j]?) → DC ops listed → lexOk ops as l.length k listed = true →
    aops P l S K → AnyA P ops as K l.length listed S
  | [], _, _, _, _, _, hB, h => ⟨by simpa [lexOk] using hB, h⟩
  | o :: l, k, listed, S, hl, hdc, hB, h => by
    have h0 : as[k]? = some o := by simpa using (hl 0).symm
    have hl' : ∀ j, l[j]? = as[k + 1 + j]? := fun j => by
      have := hl (j + 1)
      rw [List.getElem?_cons_succ] at this
      rw [this]
      congr 1
      omega
    simp only [List.length_cons, lexOk, Bool.and_eq_true, Bool.or_eq_true] at hB
    obtain ⟨hB1, hB2⟩ := hB
    rcases hB1 with hB1 | hB1
    · have hr : Region.ready .any ops listed = [k] := by simpa using hB1
      have hk : k ∈ Region.ready .any ops listed := by rw [hr]; simp
      refine ⟨(fun h => by rw [h] at hr; cases hr), fun i hi => ?_⟩
      rw [hr] at hi
      simp only [List.mem_singleton] at hi
      subst hi
      unfold aAt
      rw [h0]
      simp only
      -- the rest, wherever this operation leads
      have mono : ∀ {S : St} {K1 K2 : St → Prop}, (∀ S, K1 S → K2 S) → aoper P o S K1 → aoper P o S K2 := by
        intro S K1 K2 hKK hh
        have ms : astep P o S K1 → astep P o S K2 := by
          intro hs
          unfold astep at hs ⊢
          cases hop : o.op with
          | q op =>
            rw [hop] at hs
            obtain ⟨v, h1, h2⟩ := (aq_iff op).1 hs
            exact (aq_iff op).2 ⟨v, h1, hKK _ h2⟩
          | e op =>
            rw [hop] at hs
            simp only at hs ⊢
            cases op with
            | alloc zero => exact hKK _ hs
            | boxO x => exact ⟨hs.1, hKK _ hs.2⟩
            | st n p x =>
              simp only [ae] at hs ⊢
              obtain ⟨h1, h2, h3⟩ := hs
              refine ⟨h1, h2, ?_⟩
              split at h3
              · obtain ⟨cs, h4, h5, h6⟩ := h3; exact ⟨cs, h4, h5, hKK _ h6⟩
              · obtain ⟨xs, c, h4, h5, h6, h7, h8⟩ := h3; exact ⟨xs, c, h4, h5, h6, h7, hKK _ h8⟩
              · cases h3
            | app z b x y =>
              simp only [ae] at hs ⊢
              split at hs
              · obtain ⟨h1, h2, h3, h4⟩ := hs
                refine ⟨h1, h2, h3, ?_⟩
                split at h4
                · exact ⟨h4.1, hKK _ h4.2⟩
                · exact hKK _ h4
                · cases h4
              · cases hs
            | appr z b x y =>
              simp only [ae] at hs ⊢
              split at hs
              · obtain ⟨h1, h2, h3, h4, h5, xs, h6, h7, h8⟩ := hs
                exact ⟨h1, h2, h3, h4, h5, xs, h6, h7, hKK _ h8⟩
              · cases hs
            | appn z b x y =>
              simp only [ae] at hs ⊢
              split at hs
              · obtain ⟨h1, h2, h8⟩ := hs
                exact ⟨h1, h2, hKK _ h8⟩
              · cases hs
            | mks z b zero n =>
              simp only [ae] at hs ⊢
              split at hs
              · exact ⟨hs.1, hs.2.1, hKK _ hs.2.2⟩
              · cases hs
            | mkm => exact hKK _ hs
            | updm m k' v =>
              simp only [ae] at hs ⊢
              split at hs
              · obtain ⟨h1, ks, mm, h2, h3⟩ := hs; exact ⟨h1, ks, mm, h2, hKK _ h3⟩
              · cases hs
            | call c args =>
              simp only [ae] at hs ⊢
              split at hs
              · obtain ⟨L, Φ, h1, h2, h3⟩ := hs
                exact ⟨L, Φ, h1, h2, fun r L' n' hr => by
                  obtain ⟨h4, h5, h6, h7⟩ := h3 r L' n' hr
                  exact ⟨h4, h5, h6, hKK _ h7⟩⟩
              · cases hs
        unfold aoper at hh ⊢
        cases hog : o.g with
        | none => rw [hog] at hh; exact ms hh
        | some tw =>
          obtain ⟨t, w⟩ := tw
          rw [hog] at hh
          simp only at hh ⊢
          split at hh
          · exact ⟨fun e => ms (hh.1 e), fun e => hKK _ (hh.2 e)⟩
          · exact hKK _ hh
          · cases hh
      exact mono (fun S' hS' => anyA_lex hlen l (i + 1) _ S' hl' (hdc.set hk) hB2 hS') h
    · obtain ⟨hr, hq⟩ := hB1
      rw [h0] at hq
      simp only [Bool.and_eq_true, List.all_eq_true, List.mem_range] at hq
      obtain ⟨hqq, hfree⟩ := hq
      obtain ⟨v, hy, hK⟩ := yld_of_aoper hqq h
      have hr' : k ∈ Region.ready .any ops listed := by simpa using hr
      refine anyA_first hlen h0 l.length listed S hdc (fun j oj hj hne hun => ?_) hr' hy (anyA_lex hlen l (k + 1) _ _ hl' (hdc.set hr') hB2 hK)
      have h1 := hfree j (List.getElem?_eq_some_iff.1 hj).1
      rw [hj] at h1
      simp only [Bool.or_eq_true, beq_iff_eq, hne, false_or, hun, Bool.false_eq_true, Bool.and_eq_true] at h1
      exact h1
end
end Go.Proofs.Fathom
