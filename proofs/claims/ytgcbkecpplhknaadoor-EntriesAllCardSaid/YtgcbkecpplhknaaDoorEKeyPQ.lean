/- Own words: what lies at a path; no program in sight. Own words: a value's key; no program in sight. -/
import Derived.Test.YtgcbkecpplhknaaDoorEPlain
import Derived.Test.YtgcbkecpplhknaaDoorJPlain
import Derived.Test.YtgcbkecpplhknaaDoorJShow
set_option linter.unusedVariables false
namespace Go.Mu
open Go.RowKit

def numL : List UInt8 → Nat → Int
  | [], n => n
  | c :: l, n => if c.toNat < 48 ∨ 57 < c.toNat then -1 else numL l (n * 10 + (c.toNat - 48))
/-- The number of a step; -1: it is none. -/
def numS (s : ByteArray) : Int := if s.size = 0 ∨ 4 < s.size ∨ (1 < s.size ∧ s.data.toList.head? = some 48) then -1 else numL s.data.toList 0
theorem numL_ge (l : List UInt8) (n : Nat) : -1 ≤ numL l n := by
  induction l generalizing n with
  | nil => unfold numL; omega
  | cons c l ih => unfold numL; split
                   · omega
                   · exact ih _
theorem numS_ge (s : ByteArray) : -1 ≤ numS s := by unfold numS; split; omega; exact numL_ge _ _
theorem numS_zero {s : ByteArray} (h : s.size = 0) : numS s = -1 := by unfold numS; rw [if_pos (.inl h)]
theorem numS_long {s : ByteArray} (h : 4 < s.size) : numS s = -1 := by unfold numS; rw [if_pos (.inr (.inl h))]
theorem numS_lead {s : ByteArray} (h : 1 < s.size) (h2 : (s[0]'(by omega)).toNat = 48) : numS s = -1 := by
  have h3 : s.data.toList.head? = some 48 := by
    rw [List.head?_eq_getElem?, List.getElem?_eq_getElem (by simpa using (by omega : 0 < s.size))]
    congr 1
    exact UInt8.toNat_inj.1 h2
  unfold numS; rw [if_pos (.inr (.inr ⟨h, h3⟩))]
theorem numS_one {s : ByteArray} (h : s.size = 1) : numS s = numL s.data.toList 0 := by unfold numS; rw [if_neg (by omega)]
theorem numS_more {s : ByteArray} (h : 1 < s.size) (h4 : s.size ≤ 4) (h2 : (s[0]'(by omega)).toNat ≠ 48) : numS s = numL s.data.toList 0 := by
  unfold numS; rw [if_neg]
  rintro (h3 | h3 | ⟨_, h3⟩) <;> try omega
  · apply h2
    rw [List.head?_eq_getElem?, List.getElem?_eq_getElem (by simpa using (by omega : 0 < s.size))] at h3
    injection h3 with h3
    exact congrArg UInt8.toNat h3
theorem numL_at {s : ByteArray} {k : Nat} (h : k < s.size) (n : Nat) : numL (s.data.toList.drop k) n = if (s[k]'h).toNat < 48 ∨ 57 < (s[k]'h).toNat then -1 else numL (s.data.toList.drop (k + 1)) (n * 10 + ((s[k]'h).toNat - 48)) := by
  rw [List.drop_eq_getElem_cons (by simpa using h)]
  rfl
theorem numL_end {s : ByteArray} {k : Nat} (h : k = s.size) (n : Nat) : numL (s.data.toList.drop k) n = n := by
  rw [List.drop_of_length_le (by rw [h]; simp)]; rfl

/-- Where a name is. -/
def idxN (s : ByteArray) : List ByteArray → Nat → Int
  | [], _ => -1
  | x :: l, k => if x = s then k else idxN s l (k + 1)
/-- The place of a step in a value; -1: there is none. -/
def placeS (v : JV) (s : ByteArray) : Int := if v.kind = 5 ∧ numS s < v.items.length then numS s else if v.kind = 6 then idxN s v.names 0 else -1
theorem idxN_at {s x : ByteArray} {l : List ByteArray} {k : Nat} (h : l[k]? = some x) (m : Nat) : idxN s (l.drop k) m = if x = s then (m : Int) else idxN s (l.drop (k + 1)) (m + 1) := by
  obtain ⟨hk, rfl⟩ := List.getElem?_eq_some_iff.1 h
  rw [List.drop_eq_getElem_cons hk]
  rfl
theorem idxN_end {s : ByteArray} {l : List ByteArray} {k : Nat} (h : k = l.length) (m : Nat) : idxN s (l.drop k) m = -1 := by
  rw [List.drop_of_length_le (by omega)]; rfl
theorem idxN_lt (s : ByteArray) : ∀ (l : List ByteArray) (k : Nat), idxN s l k < k + l.length
  | [], k => by unfold idxN; omega
  | x :: l, k => by
    unfold idxN
    split
    · simp; omega
    · have := idxN_lt s l (k + 1); simp; omega
/-- What lies behind the steps. -/
def walkS : List ByteArray → JV → Option JV
  | [], v => some v
  | s :: l, v => if placeS v s < 0 then none else (v.items[(placeS v s).toNat]?).bind (walkS l)
/-- What lies at a path in a value. -/
def getS (v : JV) (p : ByteArray) : Option JV := match stepsS p with
  | none => none
  | some l => if formS 6 v = true then walkS l v else none
theorem form_names {m : Nat} {v : JV} (h : formS m v = true) (h6 : v.kind = 6) : v.names.length = v.items.length := by
  cases m with
  | zero => cases h
  | succ m =>
    have h1 : (shapeS v && v.items.all (formS m)) = true := h
    simp [shapeS, h6] at h1
    exact h1.1.2.1.2
theorem form_item {m : Nat} {v x : JV} (h : formS (m + 1) v = true) (hx : x ∈ v.items) : formS m x = true := by
  have h1 : (shapeS v && v.items.all (formS m)) = true := h
  simp at h1
  exact h1.2 x hx
theorem place_lt {m : Nat} {v : JV} {s : ByteArray} (h : formS m v = true) : placeS v s < v.items.length := by
  unfold placeS
  split
  · rename_i h1; exact h1.2
  · split
    · rename_i h6
      have := idxN_lt s v.names 0
      rw [form_names h h6] at this
      simpa using this
    · omega
theorem walk_no {s : ByteArray} {l : List ByteArray} {k : Nat} {u : JV} (h : l[k]? = some s) (hp : placeS u s < 0) : walkS (l.drop k) u = none := by
  obtain ⟨hk, rfl⟩ := List.getElem?_eq_some_iff.1 h
  rw [List.drop_eq_getElem_cons hk, walkS, if_pos hp]
theorem walk_yes {s : ByteArray} {l : List ByteArray} {k j : Nat} {u x : JV} (h : l[k]? = some s) (hp : placeS u s = j) (hx : u.items[j]? = some x) : walkS (l.drop k) u = walkS (l.drop (k + 1)) x := by
  obtain ⟨hk, rfl⟩ := List.getElem?_eq_some_iff.1 h
  rw [List.drop_eq_getElem_cons hk, walkS, if_neg (by omega), hp, Int.toNat_natCast, hx]
  rfl
theorem walk_end {l : List ByteArray} {k : Nat} {u : JV} (h : k = l.length) : walkS (l.drop k) u = some u := by
  rw [List.drop_of_length_le (by omega)]; rfl
theorem get_nostep {v : JV} {p : ByteArray} (h : stepsS p = none) : getS v p = none := by unfold getS; rw [h]
theorem get_noform {v : JV} {p : ByteArray} (h : formS 6 v = false) : getS v p = none := by unfold getS; rw [h]; cases stepsS p <;> simp
theorem get_yes {v : JV} {p : ByteArray} {l : List ByteArray} (h : stepsS p = some l) (hf : formS 6 v = true) : getS v p = walkS l v := by
  unfold getS; rw [h]
  show (if formS 6 v = true then walkS l v else none) = _
  rw [if_pos hf]
end Go.Mu

namespace Go.Mu

/-- A text's bytes: behind each zero comes 255; behind all two zeros. -/
def escZ (l : List UInt8) : List UInt8 := l.flatMap fun b => if b = 0 then [0, 255] else [b]
def textK (s : ByteArray) : List UInt8 := escZ s.data.toList ++ [0, 0]
theorem escZ_len (l : List UInt8) : (escZ l).length ≤ 2 * l.length := by
  induction l with
  | nil => simp [escZ]
  | cons b l ih =>
    have : escZ (b :: l) = (if b = 0 then [0, 255] else [b]) ++ escZ l := by simp [escZ]
    rw [this]; split <;> simp <;> omega
theorem escZ_zero {l : List UInt8} {k : Nat} {b : UInt8} (h : l[k]? = some b) (h0 : b = 0) : escZ (l.take (k + 1)) = (escZ (l.take k) ++ [b]) ++ [255] := by
  rw [List.take_add_one, h]; simp [escZ, h0]
theorem escZ_one {l : List UInt8} {k : Nat} {b : UInt8} (h : l[k]? = some b) (h0 : b ≠ 0) : escZ (l.take (k + 1)) = escZ (l.take k) ++ [b] := by
  rw [List.take_add_one, h]; simp [escZ, h0]
theorem textK_len (s : ByteArray) : (textK s).length ≤ 2 * s.size + 2 := by
  have h := escZ_len s.data.toList
  have h2 : s.data.toList.length = s.size := rfl
  simp [textK]; omega

/-- Eight bytes of a number, the greatest first. -/
def byteN (m j : Nat) : UInt8 := UInt8.ofNat (m / 256 ^ (7 - j))
def bigN (m : Nat) : List UInt8 := [byteN m 0, byteN m 1, byteN m 2, byteN m 3, byteN m 4, byteN m 5, byteN m 6, byteN m 7]
def bigS (n : Int) : List UInt8 := bigN (n + 9223372036854775808).toNat
theorem bigS_len (n : Int) : (bigS n).length = 8 := rfl

/-- What stands ahead of member k. -/
def kHead (v : JV) (k : Nat) : List UInt8 := if v.kind = 6 then 1 :: textK (v.names.getD k ByteArray.empty) else []
/-- The first k members. -/
def kBody (v : JV) (f : JV → List UInt8) : Nat → List UInt8
  | 0 => []
  | k + 1 => kBody v f k ++ kHead v k ++ (match v.items[k]? with | some x => f x | none => [])
theorem kBody_succ (v : JV) (f : JV → List UInt8) (k : Nat) (x : JV) (h : v.items[k]? = some x) : kBody v f (k + 1) = kBody v f k ++ kHead v k ++ f x := by simp [kBody, h]
theorem kBody_mono (v : JV) (f : JV → List UInt8) (k : Nat) : ∀ d, (kBody v f k).length ≤ (kBody v f (k + d)).length
  | 0 => Nat.le_refl _
  | d + 1 => by
    have h := kBody_mono v f k d
    show _ ≤ (kBody v f (k + d) ++ kHead v (k + d) ++ (match v.items[k + d]? with | some x => f x | none => [])).length
    simp only [List.length_append]; omega
theorem kBody_le (v : JV) (f : JV → List UInt8) {k n : Nat} (h : k ≤ n) : (kBody v f k).length ≤ (kBody v f n).length := by
  have := kBody_mono v f k (n - k)
  rwa [show k + (n - k) = n by omega] at this
/-- The key of a formed value that is at most so deep. -/
def keyS : Nat → JV → List UInt8
  | 0, _ => []
  | m + 1, v => UInt8.ofNat (v.kind + 1).toNat ::
    (if v.kind = 3 then bigS v.num else if v.kind = 4 then textK v.text else if v.kind = 5 ∨ v.kind = 6 then kBody v (keyS m) v.items.length ++ [0] else [])
def kCap : Nat → Nat
  | 0 => 0
  | m + 1 => 24 * (kCap m + 123) + 130
theorem kCap6 : kCap 6 ≤ 70368744177664 := by decide
theorem kHead_len {m : Nat} {v : JV} (h : formS (m + 1) v = true) (h5 : ¬ v.kind < 5) (k : Nat) (hk : k < v.items.length) : (kHead v k).length ≤ 123 := by
  obtain ⟨_, _, _, h2⟩ := form_parts h
  obtain ⟨h24, hn, hns⟩ := h2 h5
  unfold kHead
  split
  · rename_i h6
    rw [if_pos h6] at hn
    have h3 := namesS_text hns k (by omega)
    have := textK_len (v.names.getD k ByteArray.empty)
    simp only [List.length_cons]; omega
  · simp
theorem key_len : ∀ (m : Nat) (v : JV), formS m v = true → (keyS m v).length ≤ kCap m ∧ ∀ k, k ≤ v.items.length → ¬ v.kind < 5 → (kBody v (keyS (m - 1)) k).length ≤ k * (kCap (m - 1) + 123)
  | 0, v, hf => by simp [formS] at hf
  | m + 1, v, hf => by
    obtain ⟨hb, htx, hi, h2⟩ := form_parts hf
    have htx' : v.text.size ≤ 60 := by simp only [textS, Bool.and_eq_true, decide_eq_true_eq] at htx; exact htx.1
    have hbody : ∀ k, k ≤ v.items.length → ¬ v.kind < 5 → (kBody v (keyS m) k).length ≤ k * (kCap m + 123) := by
      intro k
      induction k with
      | zero => intro _ _; simp [kBody]
      | succ k ih =>
        intro hk h5
        have h1 := ih (by omega) h5
        have hx : v.items[k]? = some (v.items[k]'(by omega)) := List.getElem?_eq_getElem (by omega)
        have h3 := (key_len m _ (hi _ (List.mem_of_getElem? hx))).1
        have h4 := kHead_len hf h5 k (by omega)
        rw [kBody_succ v _ k _ hx]
        simp only [List.length_append]
        have e : (k + 1) * (kCap m + 123) = k * (kCap m + 123) + (kCap m + 123) := by rw [Nat.add_mul]; omega
        omega
    refine ⟨?_, hbody⟩
    have hc : kCap (m + 1) = 24 * (kCap m + 123) + 130 := rfl
    have ht := textK_len v.text
    unfold keyS
    simp only [List.length_cons]
    split
    · rw [bigS_len]; omega
    split
    · omega
    split
    · rename_i k3 k4 k56
      have h5 : ¬ v.kind < 5 := by omega
      have h3 := hbody v.items.length (Nat.le_refl _) h5
      have h4 := (h2 h5).1
      have e : v.items.length * (kCap m + 123) ≤ 24 * (kCap m + 123) := Nat.mul_le_mul_right _ h4
      simp only [List.length_append, List.length_cons, List.length_nil]
      omega
    · simp; omega
theorem form_24 {m : Nat} {v : JV} (h : formS (m + 1) v = true) : v.items.length ≤ 24 ∧ v.names.length ≤ 24 := by
  have hs : shapeS v = true := by simp only [formS, Bool.and_eq_true] at h; exact h.1
  simp only [shapeS, Bool.and_eq_true] at hs
  have h2 := hs.2
  split at h2
  · simp only [Bool.and_eq_true, decide_eq_true_eq] at h2; omega
  · simp only [Bool.and_eq_true, decide_eq_true_eq] at h2
    obtain ⟨⟨h3, h4⟩, _⟩ := h2
    rw [h4]; split <;> omega
end Go.Mu
