/- A part of the proof of 'Rows.QueryReadUptoSaid': for every text and every seeds (of bulk at most 1048576 together) fathomlaw19.QueryRead returns true and its arguments read afterwards as before. -/
import Derived.Test.YtaikjbfkbijlnaaGreatF16
set_option linter.unusedVariables false
set_option linter.unusedSimpArgs false
namespace Go.Proofs.Fathom
open Go
section
variable {P : Program}
theorem astepB_mono {o : AOper} {S : St} {K1 K2 : St → Prop} (hKK : ∀ S, K1 S → K2 S) (h : astepB P o S K1) : astepB P o S K2 := by
  unfold astepB at h ⊢
  split at h
  · obtain ⟨v, h1, h2⟩ := (aq_iff _).1 h
    exact (aq_iff _).2 ⟨v, h1, hKK _ h2⟩
  · exact ae_mono (fun _ _ => hKK _) _ h
theorem aoperB_mono {o : AOper} {S : St} {K1 K2 : St → Prop} (hKK : ∀ S, K1 S → K2 S) (h : aoperB P o S K1) : aoperB P o S K2 := by
  unfold aoperB at h ⊢
  split at h
  · exact astepB_mono hKK h
  · split at h
    · exact ⟨fun e => astepB_mono hKK (h.1 e), fun e => hKK _ (h.2 e)⟩
    · exact hKK _ h
    · cases h
theorem aops_mono : ∀ {l : List AOper} {S : St} {K1 K2 : St → Prop}, (∀ S, K1 S → K2 S) → aops P l S K1 → aops P l S K2
  | [], S, K1, K2, hKK, h => hKK _ h
  | o :: l, S, K1, K2, hKK, h => aoper_mono (fun S' h' => aops_mono hKK h') h
theorem aopsB_mono : ∀ {l : List AOper} {S : St} {K1 K2 : St → Prop}, (∀ S, K1 S → K2 S) → aopsB P l S K1 → aopsB P l S K2
  | [], S, K1, K2, hKK, h => hKK _ h
  | o :: l, S, K1, K2, hKK, h => aoperB_mono (fun S' h' => aopsB_mono hKK h') h
theorem aopsM_mono : ∀ {l : List (AOper × Bool)} {S : St} {K1 K2 : St → Prop}, (∀ S, K1 S → K2 S) → aopsM P l S K1 → aopsM P l S K2
  | [], S, K1, K2, hKK, h => hKK _ h
  | (o, true) :: l, S, K1, K2, hKK, h => aoper_mono (fun S' h' => aopsM_mono hKK h') h
  | (o, false) :: l, S, K1, K2, hKK, h => aoperB_mono (fun S' h' => aopsM_mono hKK h') h
theorem agh_mono {g : Gop} {S : St} {K1 K2 : St → Prop} (hKK : ∀ S, K1 S → K2 S) (h : agh g S K1) : agh g S K2 := by
  cases g with
  | keep l => exact hKK _ h
  | keepo l => exact hKK _ h
  | mint t =>
    simp only [agh] at h ⊢
    split at h
    · exact hKK _ h
    · cases h
  | mintr t z =>
    simp only [agh] at h ⊢
    split at h
    · exact hKK _ h
    · cases h
  | mintc t k z =>
    simp only [agh] at h ⊢
    split at h
    · obtain ⟨cs, h1, h2, h3⟩ := h
      exact ⟨cs, h1, h2, hKK _ h3⟩
    · cases h
  | freezec t k =>
    simp only [agh] at h ⊢
    split at h
    · obtain ⟨cs, h1, j, n, z, o, l, xs, h2, h3, h4, h5⟩ := h
      exact ⟨cs, h1, j, n, z, o, l, xs, h2, h3, h4, hKK _ h5⟩
    · cases h
  | freezem t k =>
    simp only [agh] at h ⊢
    split at h
    · obtain ⟨i, ks, m, h1, h2, h3⟩ := h
      exact ⟨i, ks, m, h1, h2, hKK _ h3⟩
    · cases h
  | truncc t k =>
    simp only [agh] at h ⊢
    split at h
    · obtain ⟨cs, h1, j, n, z, l, xs, h2, h3, h4, h5, h6⟩ := h
      exact ⟨cs, h1, j, n, z, l, xs, h2, h3, h4, h5, hKK _ h6⟩
    · cases h
  | freezep t =>
    simp only [agh] at h ⊢
    split at h
    · obtain ⟨cs, h1, h2⟩ := h
      exact ⟨cs, h1, hKK _ h2⟩
    · cases h
  | freezer t =>
    simp only [agh] at h ⊢
    split at h
    · obtain ⟨xs, h1, h2, h3⟩ := h
      exact ⟨xs, h1, h2, hKK _ h3⟩
    · cases h
  | lower =>
    simp only [agh] at h ⊢
    obtain ⟨n, h1, h2, h3, h4, h5⟩ := h
    exact ⟨n, h1, h2, h3, h4, hKK _ h5⟩
theorem awp_mono : ∀ (a : ACode) {S : St} {K1 K2 : AExit → St → Prop}, (∀ e S, K1 e S → K2 e S) → awp P a K1 S → awp P a K2 S
  | .skip, S, K1, K2, hKK, h => hKK _ _ h
  | .ret, S, K1, K2, hKK, h => hKK _ _ h
  | .exit id, S, K1, K2, hKK, h => hKK _ _ h
  | .reg os, S, K1, K2, hKK, h => aops_mono (fun S' => hKK _ S') h
  | .drw os, S, K1, K2, hKK, h => aops_mono (fun S' => hKK _ S') h
  | .drb os ord, S, K1, K2, hKK, h => aopsB_mono (fun S' => hKK _ S') h
  | .drm os ord, S, K1, K2, hKK, h => aopsM_mono (fun S' => hKK _ S') h
  | .rgm d0 d1 bs os, S, K1, K2, hKK, h => aops_mono (fun S' => hKK _ S') h
  | .seq a b, S, K1, K2, hKK, h => awp_mono a (fun e S' h' => by
      cases e with
      | normal => exact awp_mono b hKK h'
      | exit id => exact hKK _ _ h'
      | ret => exact hKK _ _ h') h
  | .cond x a b, S, K1, K2, hKK, h => by
      simp only [awp] at h ⊢
      split at h
      · exact ⟨fun e => awp_mono a hKK (h.1 e), fun e => awp_mono b hKK (h.2 e)⟩
      · cases h
  | .block id a, S, K1, K2, hKK, h => awp_mono a (fun e S' h' => by
      cases e with
      | normal => exact hKK _ _ h'
      | exit j =>
        simp only at h' ⊢
        split
        · rename_i hj
          rw [if_pos hj] at h'
          exact hKK _ _ h'
        · rename_i hj
          rw [if_neg hj] at h'
          exact hKK _ _ h'
      | ret => exact hKK _ _ h') h
  | .loop a, S, K1, K2, hKK, h => by
      simp only [awp] at h ⊢
      obtain ⟨I, n, h1, h2⟩ := h
      refine ⟨I, n, h1, fun n S' hI => awp_mono a (fun e S'' h' => ?_) (h2 n S' hI)⟩
      cases e with
      | normal => exact h'
      | exit id => exact hKK _ _ h'
      | ret => exact hKK _ _ h'
  | .gseq g a, S, K1, K2, hKK, h => agh_mono (fun S' h' => awp_mono a hKK h') h
  | .seqg a g, S, K1, K2, hKK, h => awp_mono a (fun e S' h' => by
      cases e with
      | normal => exact agh_mono (fun S'' => hKK _ S'') h'
      | exit id => exact hKK _ _ h'
      | ret => exact hKK _ _ h') h
theorem ares_mono : ∀ {res : List ARes} {S : St} {K1 K2 : List V → Prop}, (∀ v, K1 v → K2 v) → ares S res K1 → ares S res K2
  | [], S, K1, K2, hKK, h => hKK _ h
  | .t n :: r, S, K1, K2, hKK, h => ares_mono (res := r) (fun vs h' => hKK _ h') h
  | .c n k g :: r, S, K1, K2, hKK, h => by
    simp only [ares] at h ⊢
    split at h
    · exact ⟨h.1, ares_mono (fun vs h' => hKK _ h') h.2⟩
    · obtain ⟨cs, h1, h2, h3⟩ := h
      exact ⟨cs, h1, h2, ares_mono (fun vs h' => hKK _ h') h3⟩
    · cases h
theorem awp_retK {a : ACode} {res : List ARes} {S : St} {Q1 Q2 : St → V → Prop} (hQ : ∀ S v, Q1 S v → Q2 S v) (h : awp P a (retK res Q1) S) : awp P a (retK res Q2) S :=
  awp_mono a (fun e S' h' => ⟨h'.1, ares_mono (fun vs h'' => hQ _ _ h'') h'.2⟩) h
end
end Go.Proofs.Fathom
