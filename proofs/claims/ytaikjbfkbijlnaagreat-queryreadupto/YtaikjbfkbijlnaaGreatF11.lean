/- A part of the proof of 'Rows.QueryReadUptoSaid': for every text and every seeds (of bulk at most 1048576 together) fathomlaw19.QueryRead returns true and its arguments read afterwards as before. -/
import Derived.Test.YtaikjbfkbijlnaaGreatF10
set_option linter.unusedVariables false
set_option linter.unusedSimpArgs false
namespace Go.Proofs.Fathom
open Go

def EOp.opds : EOp → List Opd
  | .alloc _ | .mkm => []
  | .boxO x | .mks _ _ _ x => [x]
  | .st _ x y | .app _ _ x y | .appr _ _ x y | .appn _ _ x y => [x, y]
  | .updm x y z => [x, y, z]
  | .call c as => c :: as
def AOper.looksB (o : AOper) : List Nat := (match o.op with
  | .q op => op.opds.filterMap fun | .t n => some n | .c _ => none
  | .e op => op.opds.filterMap fun | .t n => some n | .c _ => none) ++ (match o.g with | some (t, _) => [t] | none => [])
def AOper.apartB (x y : AOper) : Bool :=
  (match x.d with
   | some d => !(y.looksB).contains d && y.d != some d
   | none => true) &&
  (match y.d with
   | some d => !(x.looksB).contains d
   | none => true)
theorem AOper.apartB_spec {x y : AOper} (h : x.apartB y = true) : (∀ d, x.d = some d → d ∉ y.looksB) ∧ (∀ d, x.d = some d → y.d ≠ some d) ∧ (∀ d, y.d = some d → d ∉ x.looksB) := by
  refine ⟨fun d hd => ?_, fun d hd => ?_, fun d hd => ?_⟩ <;> simp [AOper.apartB, hd] at h
  · exact h.1.1
  · exact h.1.2
  · exact h.2

section
variable {P : Program} {ops : Array Oper}

def astepB (P : Program) (o : AOper) (S : St) (K : St → Prop) : Prop := match o.op with
  | .q op => aq P S.ev (fun _ => none) (fun v => K (S.put o.d v)) op
  | .e op => ae P S (fun S' v => K (S'.put o.d v)) op
def aoperB (P : Program) (o : AOper) (S : St) (K : St → Prop) : Prop := match o.g with
  | none => astepB P o S K
  | some (t, want) => match S.sl t with
    | .bool b => (b = want → astepB P o S K) ∧ (b = (!want) → K (S.put o.d (.tup [])))
    | .tup [] => K (S.put o.d (.tup []))
    | _ => False
def aopsB (P : Program) : List AOper → St → (St → Prop) → Prop
  | [], S, K => K S
  | o :: rest, S, K => aoperB P o S fun S' => aopsB P rest S' K

theorem QSpec.blind {ob : Obs} {f : FuncId} {args : List V} {r : V} (h : QSpec P (fun _ => none) f args r) : QSpec P ob f args r :=
  ⟨h.1, fun E vals hw hn hs hv => h.2 E vals hw hn ⟨fun i o hi => (by cases hi), fun i j o o' b n m hi => (by cases hi)⟩ hv⟩
theorem aq_blind {ρ : Opd → V} {ob : Obs} {K : V → Prop} (op : AOp) (h : aq P ρ (fun _ => none) K op) : aq P ρ ob K op := by
  cases op with
  | ld n g x =>
    simp only [aq] at h ⊢
    split at h
    · exact h
    · obtain ⟨_, h, _⟩ := h; cases h
    · obtain ⟨_, _, h, _⟩ := h; cases h
    · cases h
  | len x =>
    simp only [aq] at h ⊢
    split at h
    · exact h
    · obtain ⟨⟨_, h, _⟩, _⟩ := h; cases h
    · cases h
  | ix z x i =>
    simp only [aq] at h ⊢
    split at h
    · exact h
    · obtain ⟨⟨_, h, _⟩, _⟩ := h; cases h
    · cases h
  | lk x k =>
    simp only [aq] at h ⊢
    split at h
    · obtain ⟨_, _, h, _⟩ := h; cases h
    · exact h
    · cases h
  | call f args =>
    simp only [aq] at h ⊢
    obtain ⟨r, h1, h2⟩ := h
    exact ⟨r, h1.blind, h2⟩
  | lnd f args =>
    simp only [aq] at h ⊢
    obtain ⟨a, r, h1, h2⟩ := h
    have l1 : ∀ (c w : V), lend1 (fun _ => none) c = some w → lend1 ob c = some w := by
      intro c w hc
      cases c <;> first | exact hc | (simp only [lend1] at hc; cases hc)
    have l2 : ∀ (cs ws : List V), lends (fun _ => none) cs = some ws → lends ob cs = some ws := by
      intro cs
      induction cs with
      | nil => intro ws h; exact h
      | cons c cs ih =>
        intro ws h
        simp only [lends] at h ⊢
        split at h
        · rename_i w ws' k1 k2
          rw [l1 _ _ k1, ih _ k2]
          exact h
        · cases h
    exact ⟨a, r, l2 _ _ h1, h2⟩
  | slr z x hi =>
    simp only [aq] at h ⊢
    split at h
    · obtain ⟨⟨_, h, _⟩, _⟩ := h; cases h
    · cases h
  | _ => simpa only [aq] using h

theorem ae_mono {S : St} {K1 K2 : St → V → Prop} (hKK : ∀ S v, K1 S v → K2 S v) (op : EOp) (hs : ae P S K1 op) : ae P S K2 op := by
  cases op with
  | alloc zero => exact hKK _ _ hs
  | boxO x => exact ⟨hs.1, hKK _ _ hs.2⟩
  | st n p x =>
    simp only [ae] at hs ⊢
    obtain ⟨h1, h2, h3⟩ := hs
    refine ⟨h1, h2, ?_⟩
    split at h3
    · obtain ⟨cs, h4, h5, h6⟩ := h3; exact ⟨cs, h4, h5, hKK _ _ h6⟩
    · obtain ⟨xs, c, h4, h5, h6, h7, h8⟩ := h3; exact ⟨xs, c, h4, h5, h6, h7, hKK _ _ h8⟩
    · cases h3
  | app z b x y =>
    simp only [ae] at hs ⊢
    split at hs
    · obtain ⟨h1, h2, h3, h4⟩ := hs
      refine ⟨h1, h2, h3, ?_⟩
      split at h4
      · exact ⟨h4.1, hKK _ _ h4.2⟩
      · exact hKK _ _ h4
      · cases h4
    · cases hs
  | appr z b x y =>
    simp only [ae] at hs ⊢
    split at hs
    · obtain ⟨h1, h2, h3, h4, h5, xs, h6, h7, h8⟩ := hs
      exact ⟨h1, h2, h3, h4, h5, xs, h6, h7, hKK _ _ h8⟩
    · cases hs
  | appn z b x y =>
    simp only [ae] at hs ⊢
    split at hs
    · obtain ⟨h1, h2, h8⟩ := hs
      exact ⟨h1, h2, hKK _ _ h8⟩
    · cases hs
  | mks z b zero n =>
    simp only [ae] at hs ⊢
    split at hs
    · exact ⟨hs.1, hs.2.1, hKK _ _ hs.2.2⟩
    · cases hs
  | mkm => exact hKK _ _ hs
  | updm m k' v =>
    simp only [ae] at hs ⊢
    split at hs
    · obtain ⟨h1, ks, mm, h2, h3⟩ := hs; exact ⟨h1, ks, mm, h2, hKK _ _ h3⟩
    · cases hs
  | call c args =>
    simp only [ae] at hs ⊢
    split at hs
    · obtain ⟨L, Φ, h1, h2, h3⟩ := hs
      exact ⟨L, Φ, h1, h2, fun r L' n' hr => by
        obtain ⟨h4, h5, h6, h7⟩ := h3 r L' n' hr
        exact ⟨h4, h5, h6, hKK _ _ h7⟩⟩
    · cases hs

/-- A slot that is not looked at may be filled behind it. -/
theorem ae_put {S : St} {d : Nat} {v : V} {K : St → V → Prop} (op : EOp) (hd : ∀ x ∈ op.opds, x ≠ .t d) (h : ae P (S.put (some d) v) K op) :
    ae P S (fun S' u => S'.sl = S.sl ∧ K (S'.put (some d) v) u) op := by
  have ev : ∀ x ∈ op.opds, (S.put (some d) v).ev x = S.ev x := by
    intro x hx
    cases x with
    | c c => rfl
    | t n => exact upd_ne _ _ fun e => hd _ hx (by rw [e])
  have hob : (S.put (some d) v).ob = S.ob := rfl
  have hnx : (S.put (some d) v).nx = S.nx := rfl
  cases op with
  | alloc zero => exact ⟨rfl, h⟩
  | boxO x =>
    simp only [ae] at h ⊢
    rw [ev x (by simp [EOp.opds])] at h
    exact ⟨h.1, by trivial, h.2⟩
  | st n p x =>
    simp only [ae] at h ⊢
    rw [ev x (by simp [EOp.opds]), ev p (by simp [EOp.opds])] at h
    obtain ⟨h1, h2, h3⟩ := h
    refine ⟨h1, h2, ?_⟩
    split at h3
    · obtain ⟨cs, h4, h5, h6⟩ := h3; exact ⟨cs, h4, h5, by trivial, h6⟩
    · obtain ⟨xs, c, h4, h5, h6, h7, h8⟩ := h3; exact ⟨xs, c, h4, h5, h6, h7, by trivial, h8⟩
    · cases h3
  | app z b x y =>
    simp only [ae] at h ⊢
    rw [ev x (by simp [EOp.opds]), ev y (by simp [EOp.opds])] at h
    split at h
    · obtain ⟨h1, h2, h3, h4⟩ := h
      refine ⟨h1, h2, h3, ?_⟩
      split at h4
      · exact ⟨h4.1, by trivial, h4.2⟩
      · exact ⟨by trivial, h4⟩
      · cases h4
    · cases h
  | appr z b x y =>
    simp only [ae] at h ⊢
    rw [ev x (by simp [EOp.opds]), ev y (by simp [EOp.opds])] at h
    split at h
    · obtain ⟨h1, h2, h3, h4, h5, xs, h6, h7, h8⟩ := h
      exact ⟨h1, h2, h3, h4, h5, xs, h6, h7, by trivial, h8⟩
    · cases h
  | appn z b x y =>
    simp only [ae] at h ⊢
    rw [ev x (by simp [EOp.opds]), ev y (by simp [EOp.opds])] at h
    split at h
    · obtain ⟨h1, h2, h8⟩ := h
      exact ⟨h1, h2, by trivial, h8⟩
    · cases h
  | mks z b zero n =>
    simp only [ae] at h ⊢
    rw [ev n (by simp [EOp.opds])] at h
    split at h
    · exact ⟨h.1, h.2.1, by trivial, h.2.2⟩
    · cases h
  | mkm => exact ⟨rfl, h⟩
  | updm m k' w =>
    simp only [ae] at h ⊢
    rw [ev m (by simp [EOp.opds]), ev k' (by simp [EOp.opds]), ev w (by simp [EOp.opds])] at h
    split at h
    · obtain ⟨h1, ks, mm, h2, h3⟩ := h; exact ⟨h1, ks, mm, h2, by trivial, h3⟩
    · cases h
  | call c args =>
    simp only [ae] at h ⊢
    rw [ev c (by simp [EOp.opds]), List.map_congr_left fun x hx => ev x (by simp [EOp.opds, hx])] at h
    split at h
    · obtain ⟨L, Φ, h1, h2, h3⟩ := h
      exact ⟨L, Φ, h1, h2, fun r L' n' hr => by
        obtain ⟨h4, h5, h6, h7⟩ := h3 r L' n' hr
        exact ⟨h4, h5, h6, by trivial, h7⟩⟩
    · cases h

theorem mem_looksB_q {o : AOper} {op : AOp} (h : o.op = .q op) {n : Nat} (hn : .t n ∈ op.opds) : n ∈ o.looksB := by
  unfold AOper.looksB
  rw [h]
  simp only [List.mem_append, List.mem_filterMap]
  exact .inl ⟨.t n, hn, rfl⟩
theorem mem_looksB_e {o : AOper} {op : EOp} (h : o.op = .e op) {n : Nat} (hn : .t n ∈ op.opds) : n ∈ o.looksB := by
  unfold AOper.looksB
  rw [h]
  simp only [List.mem_append, List.mem_filterMap]
  exact .inl ⟨.t n, hn, rfl⟩
theorem mem_looksB_g {o : AOper} {t : Nat} {w : Bool} (h : o.g = some (t, w)) : t ∈ o.looksB := by
  unfold AOper.looksB
  rw [h]
  simp

theorem aoper_put {o : AOper} {S : St} {d : Option Nat} {v : V} {K : St → Prop} (h1 : ∀ k, d = some k → k ∉ o.looksB) (h2 : ∀ k, d = some k → o.d ≠ some k) (h : aoper P o (S.put d v) K) :
    aoper P o S (fun S' => (∀ t, o.d ≠ some t → S'.sl t = S.sl t) ∧ K (S'.put d v)) := by
  have slp : ∀ (S' : St) (u : V), S'.sl = S.sl → ∀ t, o.d ≠ some t → (S'.put o.d u).sl t = S.sl t := by
    intro S' u hS t ht
    rw [put_sl fun k hk he => ht (by rw [hk, he]), hS]
  cases d with
  | none =>
    have hmono : ∀ {S : St} {K1 K2 : St → Prop}, (∀ S', K1 S' → (∀ t, o.d ≠ some t → S'.sl t = S.sl t) → K2 S') → aoper P o S K1 → aoper P o S K2 := by
      intro S K1 K2 hKK hh
      have ms : astep P o S K1 → astep P o S K2 := by
        intro hs
        unfold astep at hs ⊢
        cases hop : o.op with
        | q op =>
          rw [hop] at hs
          obtain ⟨u, h1, h2⟩ := (aq_iff op).1 hs
          exact (aq_iff op).2 ⟨u, h1, hKK _ h2 fun t ht => put_sl fun k hk he => ht (by rw [hk, he])⟩
        | e op =>
          rw [hop] at hs
          have h9 : ae P (S.put (some (op.opds.foldl (fun m x => match x with | .t n => max m (n + 1) | _ => m) 0)) (S.sl (op.opds.foldl (fun m x => match x with | .t n => max m (n + 1) | _ => m) 0))) (fun S' v => K1 (S'.put o.d v)) op := by
            have : S.put (some (op.opds.foldl (fun m x => match x with | .t n => max m (n + 1) | _ => m) 0)) (S.sl (op.opds.foldl (fun m x => match x with | .t n => max m (n + 1) | _ => m) 0)) = S := by
              simp only [St.put]
              have : ∀ (f : Nat → V) (i : Nat), upd f i (f i) = f := fun f i => by
                funext j; unfold upd; split <;> simp_all
              rw [this]
            rw [this]; exact hs
          have hbig : ∀ x ∈ op.opds, x ≠ .t (op.opds.foldl (fun m x => match x with | .t n => max m (n + 1) | _ => m) 0) := by
            have key : ∀ (l : List Opd) (m : Nat), m ≤ l.foldl (fun m x => match x with | .t n => max m (n + 1) | _ => m) m ∧ ∀ n, Opd.t n ∈ l → n < l.foldl (fun m x => match x with | .t n => max m (n + 1) | _ => m) m := by
              intro l
              induction l with
              | nil => intro m; simp
              | cons x l ih =>
                intro m
                simp only [List.foldl_cons, List.mem_cons]
                have := ih (match x with | .t n => max m (n + 1) | _ => m)
                refine ⟨?_, fun n hn => ?_⟩
                · refine Nat.le_trans ?_ this.1
                  cases x <;> simp <;> omega
                · rcases hn with rfl | hn
                  · have h3 := this.1
                    simp only at h3 ⊢
                    omega
                  · exact this.2 n hn
            intro x hx he
            subst he
            have := (key op.opds 0).2 _ hx
            omega
          have h10 := ae_put op hbig h9
          refine ae_mono (fun S' u hu => hKK _ ?_ ?_) op h10
          · have : S'.put (some (op.opds.foldl (fun m x => match x with | .t n => max m (n + 1) | _ => m) 0)) (S.sl (op.opds.foldl (fun m x => match x with | .t n => max m (n + 1) | _ => m) 0)) = S' := by
              simp only [St.put]
              have : ∀ (f : Nat → V) (i : Nat), upd f i (f i) = f := fun f i => by
                funext j; unfold upd; split <;> simp_all
              rw [← hu.1, this]
            rw [← this]; exact hu.2
          · intro t ht
            rw [put_sl fun k hk he => ht (by rw [hk, he]), hu.1]
      unfold aoper at hh ⊢
      cases hog : o.g with
      | none => rw [hog] at hh; exact ms hh
      | some tw =>
        obtain ⟨t, w⟩ := tw
        rw [hog] at hh
        simp only at hh ⊢
        split at hh
        · exact ⟨fun e => ms (hh.1 e), fun e => hKK _ (hh.2 e) fun t ht => put_sl fun k hk he => ht (by rw [hk, he])⟩
        · exact hKK _ hh fun t ht => put_sl fun k hk he => ht (by rw [hk, he])
        · cases hh
    exact hmono (fun S' hS' ht => ⟨ht, hS'⟩) h
  | some d =>
    have hdl := h1 d rfl
    have hdd := h2 d rfl
    have hcm : ∀ (S' : St) (u : V), (S'.put (some d) v).put o.d u = (S'.put o.d u).put (some d) v := fun S' u => put_comm fun k hk he => hdd (by cases hk; exact he)
    have st : astep P o (S.put (some d) v) K → astep P o S (fun S' => (∀ t, o.d ≠ some t → S'.sl t = S.sl t) ∧ K (S'.put (some d) v)) := by
      intro hs
      unfold astep at hs ⊢
      cases hop : o.op with
      | q op =>
        rw [hop] at hs
        simp only at hs ⊢
        have he : aq P S.ev S.ob (fun u => K ((S.put (some d) v).put o.d u)) op := by
          rw [aq_congr (ρ := S.ev) (ρ' := (S.put (some d) v).ev) op fun x hx => ?_]
          · exact hs
          · cases x with
            | c c => rfl
            | t n => exact (upd_ne _ _ fun e => hdl (by rw [← e]; exact mem_looksB_q hop hx)).symm
        obtain ⟨u, h3, h4⟩ := (aq_iff op).1 he
        exact (aq_iff op).2 ⟨u, h3, slp S u rfl, by rw [← hcm]; exact h4⟩
      | e op =>
        rw [hop] at hs
        simp only at hs ⊢
        have := ae_put op (fun x hx he => hdl (mem_looksB_e hop (by rw [← he]; exact hx))) hs
        exact ae_mono (fun S' u hu => ⟨slp S' u hu.1, by rw [← hcm]; exact hu.2⟩) op this
    unfold aoper at h ⊢
    cases hog : o.g with
    | none => rw [hog] at h; exact st h
    | some tw =>
      obtain ⟨t, w⟩ := tw
      rw [hog] at h
      simp only at h ⊢
      have hts : (S.put (some d) v).sl t = S.sl t := upd_ne _ _ fun e => hdl (by rw [← e]; exact mem_looksB_g hog)
      rw [hts] at h
      split at h
      · rename_i b hb
        exact ⟨fun e => st (h.1 e), fun e => ⟨slp S _ rfl, by rw [← hcm]; exact h.2 e⟩⟩
      · exact ⟨slp S _ rfl, by rw [← hcm]; exact h⟩
      · cases h

/-- It leaves v, whatever the objects are. -/
def BYld (P : Program) (o : AOper) (v : V) (S : St) : Prop :=
  ((match o.g with | none => True | some (t, w) => S.sl t = .bool w) ∧ ∃ op, o.op = .q op ∧ aq P S.ev (fun _ => none) (fun u => u = v) op) ∨
  (∃ t w, o.g = some (t, w) ∧ (S.sl t = .bool (!w) ∨ S.sl t = .tup []) ∧ v = .tup [])
theorem BYld.yld {o : AOper} {v : V} {S : St} (h : BYld P o v S) : Yld P o v S := by
  rcases h with ⟨h1, op, h2, h3⟩ | h
  · exact .inl ⟨h1, op, h2, aq_blind op h3⟩
  · exact .inr h
theorem BYld.congr {o : AOper} {v : V} {S S' : St} (h : BYld P o v S) (hs : ∀ t ∈ o.looksB, S'.sl t = S.sl t) : BYld P o v S' := by
  rcases h with ⟨h1, op, hop, hq⟩ | ⟨t, w, h1, h2, rfl⟩
  · refine .inl ⟨?_, op, hop, ?_⟩
    · cases hog : o.g with
      | none => trivial
      | some tw =>
        obtain ⟨t, w⟩ := tw
        rw [hog] at h1
        simp only at h1 ⊢
        rw [hs t (mem_looksB_g hog), h1]
    · rw [← aq_congr (ρ := S.ev) (ρ' := S'.ev) op]
      · exact hq
      · intro x hx
        cases x with
        | c c => rfl
        | t n => exact (hs n (mem_looksB_q hop hx)).symm
  · exact .inr ⟨t, w, h1, by rw [hs t (mem_looksB_g h1)]; exact h2, rfl⟩
theorem byld_of_aoperB {o : AOper} {S : St} {K : St → Prop} (hq : o.quiet = true) (h : aoperB P o S K) : ∃ v, BYld P o v S ∧ K (S.put o.d v) := by
  have step : astepB P o S K → ∃ v, (∃ op, o.op = .q op ∧ aq P S.ev (fun _ => none) (fun u => u = v) op) ∧ K (S.put o.d v) := by
    intro hs
    unfold astepB at hs
    cases hop : o.op with
    | q op =>
      rw [hop] at hs
      obtain ⟨v, h1, h2⟩ := (aq_iff op).1 hs
      exact ⟨v, ⟨op, rfl, h1⟩, h2⟩
    | e op =>
      unfold AOper.quiet at hq
      rw [hop] at hq
      cases hq
  unfold aoperB at h
  cases hog : o.g with
  | none =>
    rw [hog] at h
    obtain ⟨v, h1, h2⟩ := step h
    exact ⟨v, .inl ⟨by rw [hog]; trivial, h1⟩, h2⟩
  | some tw =>
    obtain ⟨t, w⟩ := tw
    rw [hog] at h
    simp only at h
    split at h
    · rename_i b hb
      by_cases hbw : b = w
      · obtain ⟨v, h1, h2⟩ := step (h.1 hbw)
        exact ⟨v, .inl ⟨by rw [hog]; simp only; rw [hb, hbw], h1⟩, h2⟩
      · have hb' : b = !w := by cases b <;> cases w <;> simp_all
        exact ⟨.tup [], .inr ⟨t, w, hog, .inl (by rw [hb, hb']), rfl⟩, h.2 hb'⟩
    · rename_i hb
      exact ⟨.tup [], .inr ⟨t, w, hog, .inr hb, rfl⟩, h⟩
    · cases h
theorem aoper_mono {o : AOper} {S : St} {K1 K2 : St → Prop} (hKK : ∀ S, K1 S → K2 S) (hh : aoper P o S K1) : aoper P o S K2 := by
  have ms : astep P o S K1 → astep P o S K2 := by
    intro hs
    unfold astep at hs ⊢
    cases hop : o.op with
    | q op =>
      rw [hop] at hs
      obtain ⟨v, h1, h2⟩ := (aq_iff op).1 hs
      exact (aq_iff op).2 ⟨v, h1, hKK _ h2⟩
    | e op =>
      rw [hop] at hs
      exact ae_mono (fun _ _ h => hKK _ h) op hs
  unfold aoper at hh ⊢
  cases hog : o.g with
  | none => rw [hog] at hh; exact ms hh
  | some tw =>
    obtain ⟨t, w⟩ := tw
    rw [hog] at hh
    simp only at hh ⊢
    split at hh
    · exact ⟨fun e => ms (hh.1 e), fun e => hKK _ (hh.2 e)⟩
    · exact hKK _ hh
    · cases hh
theorem aoperB_aoper {o : AOper} {S : St} {K : St → Prop} (h : aoperB P o S K) : aoper P o S K := by
  have ms : astepB P o S K → astep P o S K := by
    intro hs
    unfold astepB at hs
    unfold astep
    cases hop : o.op with
    | q op => rw [hop] at hs; exact aq_blind op hs
    | e op => rw [hop] at hs; exact hs
  unfold aoperB at h
  unfold aoper
  cases hog : o.g with
  | none => rw [hog] at h; exact ms h
  | some tw =>
    obtain ⟨t, w⟩ := tw
    rw [hog] at h
    simp only at h ⊢
    split at h
    · rename_i b hb
      rw [hb]
      exact ⟨fun e => ms (h.1 e), fun e => h.2 e⟩
    · rename_i hb
      rw [hb]
      exact h
    · cases h

theorem anyB_first {as : List AOper} (hlen : as.length = ops.size) {K : St → Prop} {i : Nat} {oi : AOper} {v : V} (hi : as[i]? = some oi) :
    ∀ (fuel : Nat) (listed : Array Bool) (S : St), DC ops listed →
      (∀ j oj, as[j]? = some oj → j ≠ i → listed.getD j true = false → dep ops ops.size j i = true ∨ oi.apartB oj = true) →
      i ∈ Region.ready .any ops listed → BYld P oi v S →
      AnyA P ops as K fuel (listed.setIfInBounds i true) (S.put oi.d v) → AnyA P ops as K (fuel + 1) listed S := by
  intro fuel
  induction fuel with
  | zero =>
    intro listed S _ _ hr hy H
    refine ⟨fun h => (by rw [h] at hr; cases hr), fun j hj => ?_⟩
    by_cases hji : j = i
    · subst hji
      unfold aAt
      rw [hi]
      exact hy.yld.aoper H
    · have := ready_mono hj hji
      rw [H.1] at this
      cases this
  | succ fuel ih =>
    intro listed S hdc hfree hr hy H
    refine ⟨fun h => (by rw [h] at hr; cases hr), fun j hj => ?_⟩
    by_cases hji : j = i
    · subst hji
      unfold aAt
      rw [hi]
      exact hy.yld.aoper H
    · have h1 := H.2 j (ready_mono hj hji)
      obtain ⟨hjun, o, ho, hall⟩ := mem_ready.1 hj
      have hjl : j < as.length := by rw [hlen]; exact (Array.getElem?_eq_some_iff.1 ho).1
      obtain ⟨oj, hoj⟩ : ∃ oj, as[j]? = some oj := ⟨as[j], by simp [hjl]⟩
      have hiun : listed.getD i false = true → False := by
        intro h
        have h0 := (mem_ready.1 hr).1
        rcases Nat.lt_or_ge i listed.size with h' | h'
        · simp [h'] at h0 h; rw [h0] at h; cases h
        · simp [Array.getElem?_eq_none h'] at h
      have hq : oi.apartB oj = true := by
        rcases hfree j oj hoj hji hjun with h | h
        · exact (hiun (dep_listed hdc _ j i h fun o' ho' e he hb => by rw [ho] at ho'; cases ho'; exact hall e he hb)).elim
        · exact h
      obtain ⟨ha1, ha2, ha3⟩ := AOper.apartB_spec hq
      unfold aAt at h1 ⊢
      rw [hoj] at h1 ⊢
      simp only at h1 ⊢
      refine aoper_mono (fun S' hS' => ?_) (aoper_put ha1 ha2 h1)
      obtain ⟨hsl, hK⟩ := hS'
      refine ih _ S' (hdc.set hj) (fun k ok hk hki hun => hfree k ok hk hki ?_) (ready_mono hr (Ne.symm hji)) (hy.congr fun t ht => hsl t fun he => ha3 t he ht) ?_
      · by_cases hjk : j = k
        · subst hjk; exact hjun
        · rw [getD_set_ne true hjk] at hun; exact hun
      · rw [Array.setIfInBounds_comm _ _ hji]
        exact hK
/-- May the operations be walked in this order? -/
def lexOkB (ops : Array Oper) (as : List AOper) : List Nat → Array Bool → Bool
  | [], listed => Region.ready .any ops listed == []
  | k :: r, listed =>
    (Region.ready .any ops listed == [k] ||
      ((Region.ready .any ops listed).contains k && (match as[k]? with
        | some ok => ok.quiet && (List.range as.length).all fun j => j == k || listed.getD j true || dep ops ops.size j k || (match as[j]? with | some oj => ok.apartB oj | none => true)
        | none => false))) && lexOkB ops as r (listed.setIfInBounds k true)
def pickA (as : List AOper) : List Nat → List AOper
  | [] => []
  | k :: r => match as[k]? with | some o => o :: pickA as r | none => pickA as r
theorem anyB_lex {as : List AOper} (hlen : as.length = ops.size) {K : St → Prop} : ∀ (l : List Nat) (listed : Array Bool) (S : St), DC ops listed → lexOkB ops as l listed = true →
    aopsB P (pickA as l) S K → AnyA P ops as K l.length listed S
  | [], _, _, _, hB, h => ⟨by simpa [lexOkB] using hB, h⟩
  | k :: l, listed, S, hdc, hB, h => by
    simp only [List.length_cons, lexOkB, Bool.and_eq_true, Bool.or_eq_true] at hB
    obtain ⟨hB1, hB2⟩ := hB
    have hk : k ∈ Region.ready .any ops listed := by
      rcases hB1 with hB1 | hB1
      · have hr : Region.ready .any ops listed = [k] := by simpa using hB1
        rw [hr]; simp
      · simpa using hB1.1
    obtain ⟨_, oo, hoo, _⟩ := mem_ready.1 hk
    have hkl : k < as.length := by rw [hlen]; exact (Array.getElem?_eq_some_iff.1 hoo).1
    obtain ⟨o, h0⟩ : ∃ o, as[k]? = some o := ⟨as[k], by simp [hkl]⟩
    simp only [pickA, h0, aopsB] at h
    rcases hB1 with hB1 | hB1
    · have hr : Region.ready .any ops listed = [k] := by simpa using hB1
      refine ⟨(fun h => by rw [h] at hr; cases hr), fun i hi => ?_⟩
      rw [hr] at hi
      simp only [List.mem_singleton] at hi
      subst hi
      unfold aAt
      rw [h0]
      exact aoper_mono (fun S' hS' => anyB_lex hlen l _ S' (hdc.set hk) hB2 hS') (aoperB_aoper h)
    · obtain ⟨hr, hq⟩ := hB1
      rw [h0] at hq
      simp only [Bool.and_eq_true, List.all_eq_true, List.mem_range] at hq
      obtain ⟨hqq, hfree⟩ := hq
      obtain ⟨v, hy, hK⟩ := byld_of_aoperB hqq h
      refine anyB_first hlen h0 l.length listed S hdc (fun j oj hj hne hun => ?_) hk hy (anyB_lex hlen l _ _ (hdc.set hk) hB2 hK)
      have h1 := hfree j (List.getElem?_eq_some_iff.1 hj).1
      rw [hj] at h1
      simp only [Bool.or_eq_true, beq_iff_eq, hne, false_or, hun, Bool.false_eq_true] at h1
      exact h1
/-- Operations of which some are walked without a look at the objects. -/
def aopsM (P : Program) : List (AOper × Bool) → St → (St → Prop) → Prop
  | [], S, K => K S
  | (o, true) :: r, S, K => aoper P o S fun S' => aopsM P r S' K
  | (o, false) :: r, S, K => aoperB P o S fun S' => aopsM P r S' K
def pickM (as : List AOper) : List (Nat × Bool) → List (AOper × Bool)
  | [] => []
  | (k, b) :: r => match as[k]? with | some o => (o, b) :: pickM as r | none => pickM as r
def lexOkM (ops : Array Oper) (as : List AOper) : List (Nat × Bool) → Array Bool → Bool
  | [], listed => Region.ready .any ops listed == []
  | (k, b) :: r, listed =>
    (Region.ready .any ops listed == [k] ||
      ((Region.ready .any ops listed).contains k && (match as[k]? with
        | some ok => ok.quiet && (List.range as.length).all fun j => j == k || listed.getD j true || dep ops ops.size j k || (match as[j]? with | some oj => (if b then oj.quiet && ok.apart oj else ok.apartB oj) | none => true)
        | none => false))) && lexOkM ops as r (listed.setIfInBounds k true)
theorem anyM_lex {as : List AOper} (hlen : as.length = ops.size) {K : St → Prop} : ∀ (l : List (Nat × Bool)) (listed : Array Bool) (S : St), DC ops listed → lexOkM ops as l listed = true →
    aopsM P (pickM as l) S K → AnyA P ops as K l.length listed S
  | [], _, _, _, hB, h => ⟨by simpa [lexOkM] using hB, h⟩
  | (k, b) :: l, listed, S, hdc, hB, h => by
    simp only [List.length_cons, lexOkM, Bool.and_eq_true, Bool.or_eq_true] at hB
    obtain ⟨hB1, hB2⟩ := hB
    have hk : k ∈ Region.ready .any ops listed := by
      rcases hB1 with hB1 | hB1
      · have hr : Region.ready .any ops listed = [k] := by simpa using hB1
        rw [hr]; simp
      · simpa using hB1.1
    obtain ⟨_, oo, hoo, _⟩ := mem_ready.1 hk
    have hkl : k < as.length := by rw [hlen]; exact (Array.getElem?_eq_some_iff.1 hoo).1
    obtain ⟨o, h0⟩ : ∃ o, as[k]? = some o := ⟨as[k], by simp [hkl]⟩
    have hstep : aoper P o S fun S' => aopsM P (pickM as l) S' K := by
      cases b <;> simp only [pickM, h0, aopsM] at h
      · exact aoperB_aoper h
      · exact h
    rcases hB1 with hB1 | hB1
    · have hr : Region.ready .any ops listed = [k] := by simpa using hB1
      refine ⟨(fun h => by rw [h] at hr; cases hr), fun i hi => ?_⟩
      rw [hr] at hi
      simp only [List.mem_singleton] at hi
      subst hi
      unfold aAt
      rw [h0]
      exact aoper_mono (fun S' hS' => anyM_lex hlen l _ S' (hdc.set hk) hB2 hS') hstep
    · obtain ⟨hr, hq⟩ := hB1
      rw [h0] at hq
      simp only [Bool.and_eq_true, List.all_eq_true, List.mem_range] at hq
      obtain ⟨hqq, hfree⟩ := hq
      cases b with
      | false =>
        simp only [pickM, h0, aopsM] at h
        obtain ⟨v, hy, hK⟩ := byld_of_aoperB hqq h
        refine anyB_first hlen h0 l.length listed S hdc (fun j oj hj hne hun => ?_) hk hy (anyM_lex hlen l _ _ (hdc.set hk) hB2 hK)
        have h1 := hfree j (List.getElem?_eq_some_iff.1 hj).1
        rw [hj] at h1
        simp only [Bool.or_eq_true, beq_iff_eq, hne, false_or, hun, Bool.false_eq_true, if_false] at h1
        exact h1
      | true =>
        obtain ⟨v, hy, hK⟩ := yld_of_aoper hqq hstep
        refine anyA_first hlen h0 l.length listed S hdc (fun j oj hj hne hun => ?_) hk hy (anyM_lex hlen l _ _ (hdc.set hk) hB2 hK)
        have h1 := hfree j (List.getElem?_eq_some_iff.1 hj).1
        rw [hj] at h1
        simp only [Bool.or_eq_true, beq_iff_eq, hne, false_or, hun, Bool.false_eq_true, if_true, Bool.and_eq_true] at h1
        exact h1
end
end Go.Proofs.Fathom
