/- A part of the proof of 'Rows.QueryReadUptoSaid': for every text and every seeds (of bulk at most 1048576 together) fathomlaw19.QueryRead returns true and its arguments read afterwards as before. -/
import Derived.Test.YtaikjbfkbijlnaaGreatF29
set_option linter.unusedVariables false
namespace Go.Proofs.Fathom
open Go Go.Proofs
set_option maxRecDepth 100000 in
set_option maxHeartbeats 2000000 in
theorem awake_spec : PS F_fathomlaw19_awake [] (.bool true) := by
  (refine pspec' mixed w_fathomlaw19_awake (by simp) (by first | rfl | simp [V.bd, bds, bdss]) fun _ => ?_; unfold c_fathomlaw19_awake r_fathomlaw19_awake)
  (repeat' (first | simp -implicitDefEqProofs (disch := omega) only [go_sem, ↓reduceIte] | (((first | with_reducible apply cnd_c | with_reducible apply grd_c | with_reducible apply pck_c) <;> intro wh <;> (try rewrite [wh]) <;> try simp only [wdw] at wh) <;> (try (revert wh; intro _)) <;> try (exfalso; omega)) | refine andi ?_ | ((with_reducible refine callM_id ?_); refine callM_i aw_read ?_) | ((with_reducible refine callM_id ?_); refine callM_i aw_ana ?_) | ((with_reducible refine callM_id ?_); refine callM_i aw_s0 ?_) | ((with_reducible refine callM_id ?_); refine callM_i aw_s1 ?_) | ((with_reducible refine callM_id ?_); refine callM_i aw_d ?_) | ((with_reducible refine callM_id ?_); refine callM_i aw_l ?_) | ((with_reducible refine callM_id ?_); refine callM_i aw_n ?_) | fail))
  all_goals omega
end Go.Proofs.Fathom
