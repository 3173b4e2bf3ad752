/- Plain: formed as the reference says it: no bound on the depth; and that both say the same. -/
import Derived.Test.YtgcbkecpplhknaaDoorJPlain
set_option linter.unusedVariables false
namespace Go.Mu

mutual
/-- Formed, however deep. -/
def formR : JV → Bool
  | ⟨k, n, t, ns, is⟩ => shapeS ⟨k, n, t, ns, is⟩ && formRL is
def formRL : List JV → Bool
  | [] => true
  | x :: l => formR x && formRL l
end
theorem formRL_all (l : List JV) : formRL l = l.all formR := by
  induction l with
  | nil => simp [formRL]
  | cons a l ih => simp [formRL, ih]
theorem formR_eq (v : JV) : formR v = (shapeS v && v.items.all formR) := by
  cases v with
  | mk k n t ns is => rw [formR, formRL_all]

theorem shapeS_leaf (v : JV) (h : shapeS v = true) (hl : v.kind ≠ 5 ∧ v.kind ≠ 6) : v.items = [] := by
  have hb : baseS v = true := by simp only [shapeS, Bool.and_eq_true] at h; exact h.1.1
  have ht : textS v.text = true := by simp only [shapeS, Bool.and_eq_true] at h; exact h.1.2
  have h5 : v.kind < 5 := by
    simp only [baseS, Bool.and_eq_true, decide_eq_true_eq] at hb
    omega
  rw [shape_small v hb ht h5] at h
  simp at h
  exact h.1

theorem foldl_max_iff {α : Type} (f : α → Nat) (m : Nat) : ∀ (l : List α) (a : Nat), l.foldl (fun n x => max n (f x)) a ≤ m ↔ (a ≤ m ∧ ∀ x ∈ l, f x ≤ m) := by
  intro l
  induction l with
  | nil => intro a; simp
  | cons y l ih =>
    intro a
    rw [List.foldl_cons, ih]
    simp only [List.mem_cons, forall_eq_or_imp, Nat.max_le, and_assoc]

/-- FORMED AND AT MOST SO DEEP is both. -/
theorem formS_formR : ∀ (m : Nat) (v : JV), formS m v = (decide (depthS m v ≤ m) && formR v)
  | 0, v => by simp [formS, depthS]
  | m + 1, v => by
    rw [formS, formR_eq]
    cases hs : shapeS v with
    | false => simp
    | true =>
      by_cases hl : v.kind ≠ 5 ∧ v.kind ≠ 6
      · rw [shapeS_leaf v hs hl, depthS_leaf m v hl]; simp
      · rw [depthS_node m v hl]
        have hd : decide (v.items.foldl (fun n x => max n (depthS m x)) 0 + 1 ≤ m + 1) = v.items.all (fun x => decide (depthS m x ≤ m)) := by
          rw [Bool.eq_iff_iff]
          simp only [decide_eq_true_eq, List.all_eq_true, Nat.add_le_add_iff_right, foldl_max_iff, Nat.zero_le, true_and]
        rw [hd]
        have hf : (fun x => decide (depthS m x ≤ m) && formR x) = formS m := funext fun x => (formS_formR m x).symm
        rw [← hf]
        simp only [Bool.true_and]
        induction v.items with
        | nil => rfl
        | cons a l ih => simp only [List.all_cons, ih]; cases decide (depthS m a ≤ m) <;> cases formR a <;> simp
end Go.Mu
