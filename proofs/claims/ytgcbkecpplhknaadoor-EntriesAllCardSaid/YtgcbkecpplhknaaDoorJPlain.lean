/- What is said of values: plain functions, no program in sight. -/
import Derived.Test.YtgcbkecpplhknaaDoorMu
import Derived.Lib.ValidU
set_option linter.unusedVariables false
namespace Go.Mu

/-- How deep, at most m + 1. -/
def depthS : Nat → JV → Nat
  | 0, _ => 1
  | m + 1, v => if v.kind ≠ 5 ∧ v.kind ≠ 6 then 1 else v.items.foldl (fun n x => max n (depthS m x)) 0 + 1
theorem depthS_le (m : Nat) : ∀ v, depthS m v ≤ m + 1 := by
  induction m with
  | zero => intro v; exact Nat.le_refl _
  | succ m ih =>
    intro v
    unfold depthS
    split
    · omega
    · have := foldl_max_le (depthS m) (m + 1) v.items (fun x _ => ih x) 0 (by omega)
      omega
theorem depthS_leaf (m : Nat) (v : JV) (h : v.kind ≠ 5 ∧ v.kind ≠ 6) : depthS (m + 1) v = 1 := by simp [depthS, h]
theorem depthS_node (m : Nat) (v : JV) (h : ¬ (v.kind ≠ 5 ∧ v.kind ≠ 6)) : depthS (m + 1) v = v.items.foldl (fun n x => max n (depthS m x)) 0 + 1 := by simp [depthS, h]


def sumN {α : Type} (f : α → Nat) (xs : List α) : Nat := (xs.map f).sum
theorem sumN_snoc {α : Type} (f : α → Nat) (xs : List α) (k : Nat) (x : α) (h : xs[k]? = some x) : sumN f (xs.take (k + 1)) = sumN f (xs.take k) + f x := by
  unfold sumN; rw [List.take_add_one, h]; simp
theorem sumN_take_le {α : Type} (f : α → Nat) (xs : List α) (k : Nat) : sumN f (xs.take k) ≤ sumN f xs := by
  have h : sumN f xs = sumN f (xs.take k) + sumN f (xs.drop k) := by
    unfold sumN; rw [← List.sum_append, ← List.map_append, List.take_append_drop]
  omega

/-- How many values, itself too; at most 1001; going down m deep. -/
def nodesS : Nat → JV → Nat
  | 0, _ => 1001
  | m + 1, v => min 1001 (1 + sumN (nodesS m) v.items)
theorem nodesS_le (m : Nat) (v : JV) : nodesS m v ≤ 1001 := by cases m <;> unfold nodesS <;> omega

mutual
def fewS : JV → Bool
  | ⟨k, n, t, ns, is⟩ => decide (nodesS 40 ⟨k, n, t, ns, is⟩ ≤ 300) && decide (ns.length ≤ 100) && decide (t.size ≤ 1000) && ns.all (fun s => decide (s.size ≤ 1000)) && fewL is
def fewL : List JV → Bool
  | [] => true
  | x :: l => fewS x && fewL l
end
theorem fewL_all (l : List JV) : fewL l = l.all fewS := by
  induction l with
  | nil => simp [fewL]
  | cons a l ih => simp [fewL, ih]
theorem fewS_eq (v : JV) : fewS v = (decide (nodesS 40 v ≤ 300) && decide (v.names.length ≤ 100) && decide (v.text.size ≤ 1000) && v.names.all (fun s => decide (s.size ≤ 1000)) && v.items.all fewS) := by
  cases v with
  | mk k n t ns is => rw [fewS, fewL_all]

/-- A text: not too long, valid UTF-8. -/
def textS (s : ByteArray) : Bool := decide (s.size ≤ 60) && Lib.validD s.data.toList

/-- Less, byte by byte. -/
def ltB (a b : ByteArray) : Bool := Op.bytesLess a.toList b.toList

/-- p of all numbers below n. -/
def allTo (n : Nat) (p : Nat → Bool) : Bool := (List.range n).all p
theorem allTo_zero (p : Nat → Bool) : allTo 0 p = true := rfl
theorem allTo_succ (n : Nat) (p : Nat → Bool) : allTo (n + 1) p = (allTo n p && p n) := by simp [allTo, List.range_succ]
theorem allTo_iff (n : Nat) (p : Nat → Bool) : allTo n p = true ↔ ∀ j, j < n → p j = true := by simp [allTo]
theorem allTo_false {n : Nat} {p : Nat → Bool} (k : Nat) (hk : k < n) (h : p k = false) : allTo n p = false := by
  cases hq : allTo n p with
  | false => rfl
  | true => rw [(allTo_iff n p).1 hq k hk] at h; cases h

/-- Of name j: a text, and greater than the one ahead. -/
def nameAt (l : List ByteArray) (j : Nat) : Bool := textS (l.getD j ByteArray.empty) && (decide (j = 0) || ltB (l.getD (j - 1) ByteArray.empty) (l.getD j ByteArray.empty))
/-- All are texts, and they rise. -/
def namesS (l : List ByteArray) : Bool := allTo l.length (nameAt l)

/-- The kind, and that what the kind doesn't have is zero. -/
def baseS (v : JV) : Bool := decide (0 ≤ v.kind) && decide (v.kind ≤ 6) && (decide (v.kind = 3) || decide (v.num = 0)) && (decide (v.kind = 4) || v.text.toList.isEmpty)
theorem base_cases (v : JV) :
    (v.kind < 0 ∧ baseS v = false) ∨ (0 ≤ v.kind ∧ 6 < v.kind ∧ baseS v = false) ∨
    (0 ≤ v.kind ∧ v.kind ≤ 6 ∧ (v.kind != 3) = true ∧ (v.num != 0) = true ∧ baseS v = false) ∨
    (0 ≤ v.kind ∧ v.kind ≤ 6 ∧ (v.kind != 3) = false ∧ (v.kind != 4) = true ∧ v.text.toList.isEmpty = false ∧ baseS v = false) ∨
    (0 ≤ v.kind ∧ v.kind ≤ 6 ∧ (v.kind != 3) = true ∧ (v.num != 0) = false ∧ (v.kind != 4) = true ∧ v.text.toList.isEmpty = false ∧ baseS v = false) ∨
    (0 ≤ v.kind ∧ v.kind ≤ 6 ∧ (v.kind != 3) = false ∧ (v.kind != 4) = true ∧ v.text.toList.isEmpty = true ∧ baseS v = true) ∨
    (0 ≤ v.kind ∧ v.kind ≤ 6 ∧ (v.kind != 3) = true ∧ (v.num != 0) = false ∧ (v.kind != 4) = false ∧ baseS v = true) ∨
    (0 ≤ v.kind ∧ v.kind ≤ 6 ∧ (v.kind != 3) = true ∧ (v.num != 0) = false ∧ (v.kind != 4) = true ∧ v.text.toList.isEmpty = true ∧ baseS v = true) := by
  unfold baseS
  by_cases h0 : v.kind < 0
  · left; exact ⟨h0, by simp; omega⟩
  by_cases h6 : 6 < v.kind
  · right; left; exact ⟨by omega, h6, by simp; omega⟩
  have a0 : 0 ≤ v.kind := by omega
  have a6 : v.kind ≤ 6 := by omega
  by_cases h3 : v.kind = 3
  · have h4 : ¬ v.kind = 4 := by omega
    cases he : v.text.toList.isEmpty <;> simp [h3]
  · by_cases hn : v.num = 0
    · by_cases h4 : v.kind = 4
      · simp [h4, hn]
      · cases he : v.text.toList.isEmpty <;> simp [h3, hn, h4, a0, a6]
    · simp [h3, hn, a0, a6]

/-- What is asked of a formed value but for its items. -/
def shapeS (v : JV) : Bool :=
  baseS v && textS v.text &&
    (if v.kind < 5 then decide (v.items.length = 0) && decide (v.names.length = 0)
     else decide (v.items.length ≤ 24) && decide (v.names.length = if v.kind = 6 then v.items.length else 0) && namesS v.names)
/-- How many items and names there may be. -/
def countS (v : JV) : Bool := decide (v.items.length ≤ 24) && decide (v.names.length = if v.kind = 6 then v.items.length else 0)
theorem shape_small (v : JV) (hb : baseS v = true) (ht : textS v.text = true) (h : v.kind < 5) : shapeS v = (decide (v.items.length = 0) && decide (v.names.length = 0)) := by simp [shapeS, hb, ht, h]
theorem shape_big (v : JV) (hb : baseS v = true) (ht : textS v.text = true) (h : ¬ v.kind < 5) : shapeS v = (countS v && namesS v.names) := by simp [shapeS, hb, ht, h, countS]
/-- Formed, and at most so deep. -/
def formS : Nat → JV → Bool
  | 0, _ => false
  | m + 1, v => shapeS v && v.items.all (formS m)

/-- Where the first one is of which p holds; -1: none. -/
def idxS {α : Type} (p : α → Bool) (l : List α) : Int := match l.findIdx? p with | some i => (i : Int) | none => -1
theorem idxS_hit {α : Type} (p : α → Bool) (l : List α) (k : Nat) (x : α) (hx : l[k]? = some x) (hp : p x = true) (h : (l.take k).all (fun x => !p x) = true) : idxS p l = k := by
  have hk : k < l.length := (List.getElem?_eq_some_iff.1 hx).1
  have hf : l.findIdx? p = some k := by
    rw [List.findIdx?_eq_some_iff_getElem]
    refine ⟨hk, ?_, fun j hj => ?_⟩
    · rw [(List.getElem?_eq_some_iff.1 hx).2]; exact hp
    · rw [List.all_eq_true] at h
      have hm : l[j] ∈ l.take k := by
        rw [List.mem_take_iff_getElem]
        exact ⟨j, by omega, rfl⟩
      simpa using h _ hm
  unfold idxS
  rw [hf]
theorem idxS_miss {α : Type} (p : α → Bool) (l : List α) (h : l.all (fun x => !p x) = true) : idxS p l = -1 := by
  have hf : l.findIdx? p = none := by
    rw [List.findIdx?_eq_none_iff]
    rw [List.all_eq_true] at h
    intro x hx
    simpa using h x hx
  unfold idxS
  rw [hf]
theorem idxS_any {α : Type} (p : α → Bool) (l : List α) : decide (0 ≤ idxS p l) = l.any p := by
  cases ha : l.any p with
  | false =>
    have : l.all (fun x => !p x) = true := by rw [List.all_eq_true]; rw [List.any_eq_false] at ha; intro x hx; simpa using ha x hx
    rw [idxS_miss p l this]; rfl
  | true =>
    obtain ⟨i, hi⟩ : ∃ i, l.findIdx? p = some i := by
      rw [← Option.isSome_iff_exists, List.findIdx?_isSome]; exact ha
    unfold idxS
    rw [hi]; simp
theorem idxS_range {α : Type} (p : α → Bool) (l : List α) : -1 ≤ idxS p l ∧ idxS p l ≤ l.length := by
  unfold idxS
  split
  · rename_i i hi
    have := (List.findIdx?_eq_some_iff_getElem.1 hi).1
    omega
  · omega

/-- A search among the first k: nothing found. -/
theorem all_take_snoc {α : Type} (p : α → Bool) (xs : List α) (k : Nat) (x : α) (h : xs[k]? = some x) : (xs.take (k + 1)).all p = ((xs.take k).all p && p x) := by
  rw [List.take_add_one, h]; simp
theorem all_false_of {α : Type} (p : α → Bool) (xs : List α) (k : Nat) (x : α) (h : xs[k]? = some x) (hp : p x = false) : xs.all p = false := by
  rw [List.all_eq_false]
  exact ⟨x, List.mem_of_getElem? h, by simp [hp]⟩

end Go.Mu
