/- A part of the proof of 'Rows.QueryReadUptoSaid': for every text and every seeds (of bulk at most 1048576 together) fathomlaw19.QueryRead returns true and its arguments read afterwards as before. -/
import Derived.Test.YtaikjbfkbijlnaaGreatF31
import Derived.Test.YtaikjbfkbijlnaaGreatF43
set_option linter.unusedVariables false
namespace Go.Proofs.Fathom
open Go Go.Proofs
theorem GoodR.tys {p : List Fn} (h : GoodR p) : PS F_types_Check [progV p] (.agg [I (tyF p).1, I (tyF p).2]) :=
  types_Check_spec p (by have := h.len; omega) (fun f hf => by have := (h.fn f hf).sz; have := h.par f hf; omega) fun f hf => (h.fn f hf).wf
/-- QueryRead, for every text and seeds of some size. -/
theorem queryRead_all (k1 k2 : Tok) (text seeds : List Int) (hT : text.length ≤ 100000000) (hu : u8ok seeds) (hs : seeds.length ≤ 100000000) : PS F_fathomlaw19_QueryRead [.sl k1 1 (u8s text), .sl k2 1 (u8s seeds)] (.bool true) := by
  obtain ⟨p, ok, hr, hg⟩ := read_ex k1 text hT
  exact law19_QueryRead k1 k2 text seeds p ok hr (fun h => (hg h).good) (fun h => ⟨_, _, (hg h).tys⟩) hu hs
end Go.Proofs.Fathom
