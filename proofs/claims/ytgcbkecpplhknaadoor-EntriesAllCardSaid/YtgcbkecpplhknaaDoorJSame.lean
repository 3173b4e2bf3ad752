/- Plain: two values are alike: equal. -/
import Derived.Test.YtgcbkecpplhknaaDoorJShow
set_option linter.unusedVariables false
namespace Go.Mu

/-- Both are the same. -/
noncomputable def sameS (a b : JV) : Bool := @decide (a = b) (Classical.propDecidable _)
theorem sameS_true {a b : JV} (h : a = b) : sameS a b = true := by unfold sameS; exact @decide_eq_true _ (Classical.propDecidable _) h
theorem sameS_false {a b : JV} (h : ¬ a = b) : sameS a b = false := by unfold sameS; exact @decide_eq_false _ (Classical.propDecidable _) h
theorem sameS_eq {a b : JV} (h : sameS a b = true) : a = b := by unfold sameS at h; exact @of_decide_eq_true _ (Classical.propDecidable _) h
theorem JV.ext' {a b : JV} (h1 : a.kind = b.kind) (h2 : a.num = b.num) (h3 : a.text = b.text) (h4 : a.names = b.names) (h5 : a.items = b.items) : a = b := by
  cases a; cases b; simp at h1 h2 h3 h4 h5; subst h1 h2 h3 h4 h5; rfl
end Go.Mu
