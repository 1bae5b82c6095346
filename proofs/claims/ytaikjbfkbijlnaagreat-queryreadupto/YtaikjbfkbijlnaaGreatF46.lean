/- A part of the proof of 'Rows.QueryReadUptoSaid': for every text and every seeds (of bulk at most 1048576 together) fathomlaw19.QueryRead returns true and its arguments read afterwards as before. -/
import Derived.Test.YtaikjbfkbijlnaaGreatF45
import Derived.Test.YtaikjbfkbijlnaaGreatF44
set_option linter.unusedVariables false
namespace Go.Proofs.YtaikjbfkbijlnaaGreat.readTop
open Go Go.Proofs Go.ChangeShapes Go.WideShapes Go.ChangeAt Go.RowKit Go.Proofs.Fathom
theorem own : ownKnob Tryz.prog.godebug = none := by kernel_rfl
theorem kids : Kids Tryz.prog (· < Tryz.prog.types.size) := kids_rows (by kernel_rfl) (by kernel_rfl)
theorem full : ∀ t e, t < Tryz.prog.types.size → Tryz.prog.underlying t = some (.slice e) → 0 < Tryz.prog.cellsOf e := slices_full_of Tryz.prog (by kernel_rfl)
theorem cells5 : Tryz.prog.cellsOf 5 = 1 := by kernel_rfl
theorem bulk_lits {H : Type} (k : IntKind) : ∀ T : List Int, T.length ≤ Rows.uptoBulkAll (lits (H := H) k T)
  | [] => Nat.zero_le _
  | x :: T => by
    have ih := bulk_lits (H := H) k T
    have e : lits (H := H) k (x :: T) = .lit (.int k x) :: lits k T := rfl
    rw [e]
    simp only [Rows.uptoBulkAll, Rows.uptoBulk, List.length_cons]
    omega
theorem bulk_bytes {H : Type} {d : DataW H} {T : List Int} (h : d = .nil ∧ T = [] ∨ ∃ spare, d = .slice (lits .u8 T) spare) : T.length ≤ Rows.uptoBulk d := by
  rcases h with ⟨rfl, rfl⟩ | ⟨spare, rfl⟩
  · simp
  · have := bulk_lits (H := H) .u8 T
    simp only [Rows.uptoBulk]
    omega
set_option maxRecDepth 100000 in
theorem contract (H : Type) (enc : TypeId × Value → H) (W : World) (base : Nat) (args : Array Value) (ds gs : List (DataW H)) (before : List MemPlace)
    (hval : ∀ (j : Nat) t v, Tryz.f5.params[j]? = some t → args[j]? = some v → Value.okWide Tryz.prog W .any base t v)
    (hW : DataW.Whole enc Tryz.prog Tryz.f5.params.toList Rows.queryReadSpec.vars false W args.toList ds gs before) (hk : Rows.uptoSmall H (ds ++ gs) = true) :
    Calls Tryz.prog 5 args W fun e W' => ∃ v, e = .returned v ∧ Rows.queryReadSpec.post enc Tryz.prog Tryz.f5 false true false false W args v W' := by
  have hW' := hW
  obtain ⟨p, q, hA0, hV, rfl, hfz, hnd⟩ := hW
  have hA : DataW.TrodAll enc Tryz.prog W 0 (fun _ => true) true Tryz.f5.params.toList args.toList ds p := hA0
  rw [Tryz.params5] at hA hval
  obtain ⟨v0, vs0, d0, ds0, p0, q0, hargs, rfl, rfl, h0, r0⟩ := trodAll_cons hA
  obtain ⟨v1, vs1, d1, ds1, p1, q1, rfl, rfl, rfl, h1, r1⟩ := trodAll_cons r0
  obtain ⟨rfl, rfl, rfl⟩ := trodAll_nil r1
  obtain rfl : args = #[v0, v1] := by cases args; simp_all
  obtain ⟨rfl, rfl⟩ := trodVars_none hV
  obtain ⟨T0, hv0, hr0, hd0⟩ := bytes_in Tryz.underlying22 Tryz.underlying5 cells5 (hval 0 22 v0 rfl rfl) h0
  obtain ⟨T1, hv1, hr1, hd1⟩ := bytes_in Tryz.underlying22 Tryz.underlying5 cells5 (hval 1 22 v1 rfl rfl) h1
  have hb0 := bulk_bytes hd0
  have hb1 := bulk_bytes hd1
  have hk' : Rows.uptoBulkAll ([d0, d1] ++ []) ≤ 1048576 := of_decide_eq_true hk
  simp only [List.append_nil, Rows.uptoBulkAll] at hk'
  have hl0 : T0.length ≤ 100000000 := by omega
  have hl1 : T1.length ≤ 100000000 := by omega
  have hsp := queryRead_all .no .no T0 T1 hl0 (fun n hn => by have := hr1 n hn; omega) hl1
  refine (pspec_call hsp (vals := [v0, v1]) (by simp only [VRs]; exact ⟨_, _, rfl, hv0, _, _, rfl, hv1, rfl⟩)).mono fun e W' ⟨v, E', he, hB, hr⟩ => ?_
  simp only [VR] at hr
  subst hr
  subst he
  refine ⟨_, rfl, post_below kids full (fun t ht => ?_) rfl hW' hB (fun b sp hd => ?_) rfl rfl (ok_one (by kernel_rfl) rfl (okWide_bool_mk Tryz.underlying4 _))⟩
  · rw [Tryz.params5] at ht
    simp only [List.mem_cons, List.not_mem_nil, or_false] at ht
    rcases ht with rfl | rfl <;> exact of_decide_eq_true (by kernel_rfl)
  · exact trodAll_cons_mk (shut_bool Tryz.underlying4 _) trodAll_mk0
set_option maxRecDepth 100000 in
theorem lifted (os : Os) (started : os.Started) (H : Type) (enc : TypeId × Value → H) (F : Stop.Interp) :
    ReturnsInHanded {} Tryz.checked os 5 .any ((Rows.OpenSpec.upto Rows.queryReadSpec).pre6 enc Tryz.prog Tryz.f5 Rows.queryReadUptoRow.domain false) (((Rows.OpenSpec.upto Rows.queryReadSpec).at F).post enc Tryz.prog Tryz.f5 false true false false) := by
  refine returnsInHanded_of_cond (C := Tryz.checked) (s := Rows.OpenSpec.upto Rows.queryReadSpec) (k := Rows.uptoSmall) rfl own started (by kernel_rfl) Tryz.func5
    (OpenSpec.witness (enc := enc) (C := Tryz.checked) (s := Rows.OpenSpec.upto Rows.queryReadSpec) (k := Rows.uptoSmall) rfl false ⟨#[], #[.slice none 0 0, .slice none 0 0], []⟩ 8 (by kernel_rfl) (by kernel_rfl) (by kernel_rfl)
      (x := ([.nil, .nil], [], [])) (by kernel_rfl) rfl (by kernel_rfl)) ?_
  intro W base args ds gs before hval hW _ hk _
  exact contract H enc W base args ds gs before hval hW hk
theorem over : Rows.queryReadUptoRow.holds Tryz.pinned (Rows.OpenSpec.upto Rows.queryReadSpec) :=
  OpenClaim.holds_of_cond 5 Tryz.f5 rfl rfl rfl rfl rfl rfl rfl ⟨rfl, rfl, rfl, rfl, rfl⟩ rfl rfl rfl rfl rfl (by kernel_rfl) Tryz.func5 (by kernel_rfl)
    (of_decide_eq_true (by kernel_rfl)) (by unfold Func.isWrapper; first | (rw [if_pos (by decide +kernel)]; kernel_rfl) | (rw [if_neg (by decide +kernel)]; exact ⟨rfl, rfl⟩))
    (fun os started H enc _ F => lifted os started H enc F)
theorem queryRead_proved : Rows.QueryReadUptoSaid := over
end Go.Proofs.YtaikjbfkbijlnaaGreat.readTop
