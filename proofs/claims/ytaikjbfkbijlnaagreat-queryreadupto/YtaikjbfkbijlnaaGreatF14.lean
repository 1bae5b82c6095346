/- A part of the proof of 'Rows.QueryReadUptoSaid': for every text and every seeds (of bulk at most 1048576 together) fathomlaw19.QueryRead returns true and its arguments read afterwards as before. -/
import Derived.Test.YtaikjbfkbijlnaaGreatF13
namespace Go.Proofs.Fathom
open Go
/-- What is known of a function: its walk is one of the program's. -/
def FnW (P : Program) (f : FuncId) (ac : ACode) (res : List ARes) (nt : Nat) : Prop :=
  ∃ fn c, okFn P f = true ∧ P.funcs[f]? = some fn ∧ fn.body = some c ∧ chkCode P fn.ntmps ac c = true ∧ chkRes P fn.results.toList res = true ∧ fn.ntmps = nt

end Go.Proofs.Fathom
