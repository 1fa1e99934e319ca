/- A function's call out of its checked lowered code, in one step. -/
import Derived.Test.YtgnlibnnpipbhaaAbsJ
namespace Go.Abs
set_option linter.unusedVariables false

def chkF (P : Program) (fn : Func) (nt : Nat) (lc : LC) (rs : List RV) : Bool :=
  fn.ntmps == nt && !(fn.name == "runtime.NumGoroutine") && (match fn.body with
  | some code => chkC P nt code lc
  | none => false) && chkR P fn.results.toList rs

theorem call_fn {P : Program} (hm : P.follows .mixedOrders = true) {f : FuncId} {fn : Func} {nt : Nat} {lc : LC} {rs : List RV} (hf : P.funcs[f]? = some fn) (hc : chkF P fn nt lc rs = true) {args : List AV} {σ : List AB} {K : AV → List AB → Prop}
    (hn : args.length ≤ nt) (hw : wpC P σ.length nt lc (retP σ.length rs K) ⟨initT 0 args, σ⟩) : CallWp P f args σ K := by
  simp only [chkF, Bool.and_eq_true, beq_iff_eq, Bool.not_eq_true'] at hc
  obtain ⟨⟨⟨h1, h2⟩, h3⟩, h4⟩ := hc
  subst h1
  split at h3
  · rename_i code hb
    exact call_ok hm hf hb h2 h3 h4 hn hw
  · cases h3
end Go.Abs
