/- Plain: the text of a formed value. No program in sight. -/
import Derived.Test.YtgcbkecpplhknaaDoorJFormR
import Derived.Lib.ItoaNum
import Derived.Lib.ItoaLen
set_option linter.unusedVariables false
namespace Go.Mu

/-- A string of these bytes. -/
def bs (l : List UInt8) : ByteArray := ⟨l.toArray⟩
theorem bs_list (l : List UInt8) : (bs l).data.toList = l := by simp [bs]
theorem bs_size (l : List UInt8) : (bs l).size = l.length := by simp [bs, ByteArray.size]
theorem bs_of (s : ByteArray) : bs s.data.toList = s := by cases s; simp [bs]
theorem bs_append (a b : List UInt8) : bs a ++ bs b = bs (a ++ b) := by
  have h : (bs a ++ bs b).data = (bs (a ++ b)).data := by
    rw [ByteArray.data_append]; simp [bs]
  cases hx : bs a ++ bs b; cases hy : bs (a ++ b); rw [hx, hy] at h; simp at h; rw [h]
theorem bs_inj {a b : List UInt8} (h : bs a = bs b) : a = b := by rw [← bs_list a, h, bs_list]

/-- A digit of sixteen. -/
def hexS (k : Nat) : UInt8 := if k < 10 then UInt8.ofNat (48 + k) else UInt8.ofNat (87 + k)
/-- What a byte is written as. -/
def escS (c : UInt8) : List UInt8 :=
  if c = 34 then [92, 34] else if c = 92 then [92, 92] else if c = 8 then [92, 98] else if c = 9 then [92, 116] else if c = 10 then [92, 110] else
  if c = 12 then [92, 102] else if c = 13 then [92, 114] else if c < 32 then [92, 117, 48, 48, hexS (c.toNat / 16), hexS (c.toNat % 16)] else [c]
theorem escS_len (c : UInt8) : (escS c).length ≤ 6 := by
  unfold escS; repeat' split
  all_goals simp
/-- The bytes of l, written so. -/
def escL (l : List UInt8) : List UInt8 := l.flatMap escS
theorem escL_snoc (l : List UInt8) (k : Nat) (c : UInt8) (h : l[k]? = some c) : escL (l.take (k + 1)) = escL (l.take k) ++ escS c := by
  unfold escL; rw [List.take_add_one, h]; simp
theorem escL_len (l : List UInt8) : (escL l).length ≤ 6 * l.length := by
  induction l with
  | nil => simp [escL]
  | cons a l ih =>
    have := escS_len a
    simp only [escL, List.flatMap_cons, List.length_append, List.length_cons] at ih ⊢
    omega
def quotedS (s : ByteArray) : List UInt8 := 34 :: (escL s.data.toList ++ [34])
theorem quotedS_len (s : ByteArray) : (quotedS s).length ≤ 6 * s.size + 2 := by
  have h := escL_len s.data.toList
  have h2 : s.data.toList.length = s.size := rfl
  simp [quotedS]; omega

/-- What stands ahead of member k. -/
def headS (v : JV) (k : Nat) : List UInt8 := (if 0 < k then [44] else []) ++ (if v.kind = 6 then quotedS (v.names.getD k ByteArray.empty) ++ [58] else [])
/-- The first k members. -/
def bodyS (v : JV) (f : JV → List UInt8) : Nat → List UInt8
  | 0 => []
  | k + 1 => bodyS v f k ++ headS v k ++ (match v.items[k]? with | some x => f x | none => [])
theorem bodyS_succ (v : JV) (f : JV → List UInt8) (k : Nat) (x : JV) (h : v.items[k]? = some x) : bodyS v f (k + 1) = bodyS v f k ++ headS v k ++ f x := by simp [bodyS, h]
/-- The text of a formed value that is at most so deep. -/
def showS : Nat → JV → List UInt8
  | 0, _ => []
  | m + 1, v =>
    if v.kind = 0 then [110, 117, 108, 108] else if v.kind = 1 then [102, 97, 108, 115, 101] else if v.kind = 2 then [116, 114, 117, 101] else
    if v.kind = 3 then Lib.itoa v.num else if v.kind = 4 then quotedS v.text else
    (if v.kind = 6 then 123 else 91) :: (bodyS v (showS m) v.items.length ++ [if v.kind = 6 then 125 else 93])

def capS : Nat → Nat
  | 0 => 0
  | m + 1 => 24 * (capS m + 364) + 400
theorem capS6 : capS 6 ≤ 70368744177664 := by decide
theorem capS_mono (m : Nat) : capS m ≤ capS (m + 1) := by
  show capS m ≤ 24 * (capS m + 364) + 400; omega

theorem namesS_text {l : List ByteArray} (h : namesS l = true) (k : Nat) (hk : k < l.length) : (l.getD k ByteArray.empty).size ≤ 60 := by
  have h1 := (allTo_iff _ _).1 h k hk
  simp only [nameAt, textS, Bool.and_eq_true, decide_eq_true_eq] at h1
  exact h1.1.1

theorem form_parts {m : Nat} {v : JV} (h : formS (m + 1) v = true) : baseS v = true ∧ textS v.text = true ∧ (∀ x ∈ v.items, formS m x = true) ∧ (¬ v.kind < 5 → v.items.length ≤ 24 ∧ v.names.length = (if v.kind = 6 then v.items.length else 0) ∧ namesS v.names = true) := by
  simp only [formS, Bool.and_eq_true, List.all_eq_true] at h
  obtain ⟨hs, hi⟩ := h
  simp only [shapeS, Bool.and_eq_true] at hs
  refine ⟨hs.1.1, hs.1.2, hi, fun h5 => ?_⟩
  have h2 := hs.2
  rw [if_neg h5] at h2
  simp only [Bool.and_eq_true, decide_eq_true_eq] at h2
  exact ⟨h2.1.1, h2.1.2, h2.2⟩

theorem headS_len {m : Nat} {v : JV} (h : formS (m + 1) v = true) (h5 : ¬ v.kind < 5) (k : Nat) (hk : k < v.items.length) : (headS v k).length ≤ 364 := by
  obtain ⟨_, _, _, h2⟩ := form_parts h
  obtain ⟨h24, hn, hns⟩ := h2 h5
  have h3 := quotedS_len (v.names.getD k ByteArray.empty)
  unfold headS
  by_cases h6 : v.kind = 6
  · rw [if_pos h6] at hn ⊢
    have h4 := namesS_text hns k (by omega)
    have e : (if 0 < k then [(44 : UInt8)] else []).length ≤ 1 := by split <;> simp
    simp only [List.length_append, List.length_cons, List.length_nil]
    omega
  · rw [if_neg h6]
    have e : (if 0 < k then [(44 : UInt8)] else []).length ≤ 1 := by split <;> simp
    simp only [List.length_append, List.length_nil]
    omega

theorem show_len : ∀ (m : Nat) (v : JV) (cs : List Value) (S : Blocks) (w : World), RV w S v cs → formS m v = true → (showS m v).length ≤ capS m ∧ ∀ k, k ≤ v.items.length → ¬ v.kind < 5 → (bodyS v (showS (m - 1)) k).length ≤ k * (capS (m - 1) + 364)
  | 0, v, cs, S, w, h, hf => by simp [formS] at hf
  | m + 1, v, cs, S, w, h, hf => by
    obtain ⟨An, cn, Ai, ci, rfl, hnm, hit, hk, hn, ht⟩ := h.wide
    obtain ⟨hb, htx, hi, h2⟩ := form_parts hf
    have htx' : v.text.size ≤ 60 := by simp only [textS, Bool.and_eq_true, decide_eq_true_eq] at htx; exact htx.1
    have hbody : ∀ k, k ≤ v.items.length → ¬ v.kind < 5 → (bodyS v (showS m) k).length ≤ k * (capS m + 364) := by
      intro k
      induction k with
      | zero => intro _ _; simp [bodyS]
      | succ k ih =>
        intro hk h5
        have h1 := ih (by omega) h5
        obtain ⟨b, o, x, xcs, _, _, _, hx, hRx, _⟩ := hit.at k (by omega)
        have h3 := (show_len m x xcs S w hRx (hi x (List.mem_of_getElem? hx))).1
        have h4 := headS_len hf h5 k (by omega)
        rw [bodyS_succ v _ k x hx]
        simp only [List.length_append]
        have e : (k + 1) * (capS m + 364) = k * (capS m + 364) + (capS m + 364) := by rw [Nat.add_mul]; omega
        omega
    refine ⟨?_, hbody⟩
    have hc : 400 ≤ capS (m + 1) := by unfold capS; omega
    unfold showS
    split
    · simp; omega
    split
    · simp; omega
    split
    · simp; omega
    split
    · have h3 := Lib.itoa_length_le v.num hn.1 hn.2
      omega
    split
    · have h3 := quotedS_len v.text
      omega
    · rename_i k0 k1 k2 k3 k4
      have h5 : ¬ v.kind < 5 := by
        have hb' := hb
        simp only [baseS, Bool.and_eq_true, decide_eq_true_eq] at hb'
        omega
      have h3 := hbody v.items.length (Nat.le_refl _) h5
      have h4 := (h2 h5).1
      simp only [List.length_cons, List.length_append, List.length_nil]
      have e : v.items.length * (capS m + 364) ≤ 24 * (capS m + 364) := Nat.mul_le_mul_right _ h4
      show _ ≤ 24 * (capS m + 364) + 400
      omega
end Go.Mu
