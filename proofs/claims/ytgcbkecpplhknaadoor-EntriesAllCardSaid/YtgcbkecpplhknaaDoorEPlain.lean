/- Plain: names, paths' steps and formed indexes; no program in sight. -/
import Derived.Test.YtgcbkecpplhknaaDoorJPlain
import Derived.Test.YtgcbkecpplhknaaDoorIx
import Derived.Lib.TrimUEq
import Derived.Lib.Case
import Derived.Lib.IndexAny
import Derived.Shelf.GgClosure.StringsIndexFunc
set_option linter.unusedVariables false
namespace Go.Mu
open Go.RowKit

/-- A small letter or a digit. -/
def lowB (c : UInt8) : Bool := (decide (97 ≤ c.toNat) && decide (c.toNat ≤ 122)) || (decide (48 ≤ c.toNat) && decide (c.toNat ≤ 57))
/-- Of a rune: a letter, a digit, _ or a point. -/
def idN (n : Nat) : Bool := (decide (65 ≤ n) && decide (n ≤ 90)) || (decide (97 ≤ n) && decide (n ≤ 122)) || (decide (48 ≤ n) && decide (n ≤ 57)) || decide (n = 95) || decide (n = 46)
def idB (c : UInt8) : Bool := idN c.toNat
def allLow (s : ByteArray) : Bool := s.data.toList.all lowB
/-- A text of letters, digits, _ and points. -/
def plainS (s : ByteArray) : Bool := s.data.toList.all idB
/-- A name. -/
def nameS (s : ByteArray) : Bool := decide (1 ≤ s.size) && decide (s.size ≤ 12) && allLow s
def badRune (n : Nat) : Bool := !idN n

theorem decodeN_big (n b0 b1 b2 b3 : Nat) (h : 128 ≤ b0) (h2 : b0 < 256) : 128 ≤ (Lib.decodeN n b0 b1 b2 b3).1 := by
  unfold Lib.decodeN
  repeat' split
  all_goals first | omega | (simp; done) | (simp only []; omega)
theorem idN_big (n : Nat) (h : 128 ≤ n) : idN n = false := by
  unfold idN; simp; omega

theorem idx_plain (s : ByteArray) : ∀ (f pos : Nat), s.size ≤ pos + f → decide (0 ≤ Lib.idxFuncFrom badRune true s f pos) = !((s.data.toList.drop pos).all idB) := by
  have hsz : s.data.toList.length = s.size := rfl
  intro f
  induction f with
  | zero =>
    intro pos h
    rw [List.drop_of_length_le (by omega)]; rfl
  | succ f ih =>
    intro pos h
    unfold Lib.idxFuncFrom
    by_cases hp : pos < s.size
    · rw [if_pos hp]
      have hdr : s.data.toList.drop pos = s.data.toList[pos] :: s.data.toList.drop (pos + 1) := List.drop_eq_getElem_cons (by omega)
      rw [← Lib.decodeL_drop, hdr]
      generalize s.data.toList[pos] = b
      by_cases hb : b.toNat < 128
      · have hdec : Lib.decodeL (b :: s.data.toList.drop (pos + 1)) = (b.toNat, 1) := by
          rw [Lib.decodeL_N]; simp [Lib.decodeN, hb]
        rw [hdec]
        cases hq : idB b with
        | false => rw [if_pos (by show badRune b.toNat = true; unfold badRune; unfold idB at hq; rw [hq]; rfl)]; simp [hq]
        | true => rw [if_neg (by show ¬ badRune b.toNat = true; unfold badRune; unfold idB at hq; rw [hq]; simp), ih (pos + 1) (by omega)]; simp [hq]
      · have hbig : 128 ≤ (Lib.decodeL (b :: s.data.toList.drop (pos + 1))).1 := by
          rw [Lib.decodeL_N]
          exact decodeN_big _ _ _ _ _ (by simpa using (by omega : 128 ≤ b.toNat)) (by simpa using UInt8.toNat_lt b)
        rw [if_pos (by unfold badRune; rw [idN_big _ hbig]; rfl)]
        have : idB b = false := by unfold idB; exact idN_big _ (by omega)
        simp [this]
    · rw [if_neg hp, List.drop_of_length_le (by omega)]; rfl
theorem idxFunc_plain (s : ByteArray) : decide (0 ≤ Lib.idxFunc badRune true s) = !plainS s := by
  unfold Lib.idxFunc plainS
  rw [idx_plain s s.size 0 (by omega), List.drop_zero]

theorem plain_ascii {s : ByteArray} (h : plainS s = true) : ∀ (j : Nat) (b : UInt8), s.data.toList[j]? = some b → b.toNat < 128 := by
  intro j b hj
  unfold plainS at h
  rw [List.all_eq_true] at h
  have h2 := h b (List.mem_of_getElem? hj)
  cases Nat.lt_or_ge b.toNat 128 with
  | inl h => exact h
  | inr hb => unfold idB at h2; rw [idN_big _ hb] at h2; cases h2

theorem indexAny_none : ∀ (l chars : List UInt8), (0 ≤ Lib.indexAny l chars) ↔ ∃ b ∈ l, chars.contains b = true
  | [], chars => by simp [Lib.indexAny]
  | b :: l, chars => by
    unfold Lib.indexAny
    have ih := indexAny_none l chars
    by_cases hc : chars.contains b = true
    · rw [if_pos hc]; simp only [Int.le_refl, List.mem_cons, true_iff]; exact ⟨b, .inl rfl, hc⟩
    · rw [if_neg hc]
      have hge := Lib.indexAny_ge chars l
      by_cases hi : 0 ≤ Lib.indexAny l chars
      · rw [if_neg (by simp; omega)]
        constructor
        · intro _; obtain ⟨x, hx, hx2⟩ := ih.1 hi; exact ⟨x, List.mem_cons_of_mem _ hx, hx2⟩
        · intro _; omega
      · have hm : Lib.indexAny l chars = -1 := by omega
        rw [if_pos (by simp [hm])]
        constructor
        · intro h; omega
        · rintro ⟨x, hx, hx2⟩
          rcases List.mem_cons.1 hx with rfl | hx
          · exact absurd hx2 hc
          · exact absurd (ih.2 ⟨x, hx, hx2⟩) hi
/-- Small letters and digits alone, of what is plain: not turned by ToLower, no _ and no point. -/
theorem low_of_plain {s : ByteArray} (h : plainS s = true) : allLow s = (decide (Lib.toLowerA s.data.toList = s.data.toList) && !Lib.containsAny s.data.toList [95, 46]) := by
  have key : ∀ b : UInt8, idB b = true → (lowB b = true ↔ (Lib.lowerB b = b ∧ ([95, 46] : List UInt8).contains b = false)) := by
    intro b hb
    have hcont : ([95, 46] : List UInt8).contains b = true ↔ (b.toNat = 95 ∨ b.toNat = 46) := by
      simp only [List.contains_iff_mem, List.mem_cons, List.not_mem_nil, or_false]
      constructor
      · rintro (rfl | rfl) <;> simp
      · rintro (h | h)
        · left; apply UInt8.toNat_inj.1; rw [h]; rfl
        · right; apply UInt8.toNat_inj.1; rw [h]; rfl
    have hlow : Lib.lowerB b = b ↔ ¬ (65 ≤ b.toNat ∧ b.toNat ≤ 90) := by
      unfold Lib.lowerB Lib.isUpperB
      split
      · rename_i hu
        simp only [Bool.and_eq_true, decide_eq_true_eq] at hu
        constructor
        · intro he
          have h2 := congrArg UInt8.toNat he
          rw [UInt8.toNat_add] at h2
          have : (32 : UInt8).toNat = 32 := rfl
          rw [this] at h2
          have := UInt8.toNat_lt b
          omega
        · intro hn; exfalso; apply hn
          first | exact hu | exact ⟨by simpa using UInt8.le_iff_toNat_le.1 hu.1, by simpa using UInt8.le_iff_toNat_le.1 hu.2⟩
      · rename_i hu
        simp only [Bool.and_eq_true, decide_eq_true_eq] at hu
        simp only [true_iff]
        intro hn; apply hu
        first | exact hn | exact ⟨UInt8.le_iff_toNat_le.2 (by simpa using hn.1), UInt8.le_iff_toNat_le.2 (by simpa using hn.2)⟩
    rw [hlow]
    have hcf : ([95, 46] : List UInt8).contains b = false ↔ ¬ (b.toNat = 95 ∨ b.toNat = 46) := by
      rw [← hcont]; simp
    rw [hcf]
    unfold idB idN at hb
    unfold lowB
    simp only [Bool.or_eq_true, Bool.and_eq_true, decide_eq_true_eq] at hb ⊢
    omega
  unfold plainS at h
  rw [List.all_eq_true] at h
  rw [Bool.eq_iff_iff]
  unfold allLow Lib.containsAny
  rw [List.all_eq_true, Bool.and_eq_true, decide_eq_true_eq, Bool.not_eq_true', decide_eq_false_iff_not, indexAny_none]
  constructor
  · intro hl
    refine ⟨?_, ?_⟩
    · unfold Lib.toLowerA
      conv => rhs; rw [← List.map_id s.data.toList]
      exact List.map_congr_left fun b hb => by simpa using ((key b (h b hb)).1 (hl b hb)).1
    · rintro ⟨b, hb, hc⟩
      rw [((key b (h b hb)).1 (hl b hb)).2] at hc; cases hc
  · rintro ⟨h1, h2⟩ b hb
    refine (key b (h b hb)).2 ⟨?_, ?_⟩
    · unfold Lib.toLowerA at h1
      obtain ⟨j, hj⟩ := List.getElem?_of_mem hb
      have h3 := congrArg (fun l => l[j]?) h1
      simp only [List.getElem?_map, hj, Option.map_some] at h3
      exact Option.some.inj h3
    · cases hc : ([95, 46] : List UInt8).contains b with
      | false => rfl
      | true => exact absurd ⟨b, hb, hc⟩ h2
theorem low_plain {s : ByteArray} (h : allLow s = true) : plainS s = true := by
  unfold allLow at h
  unfold plainS
  rw [List.all_eq_true] at h ⊢
  intro b hb
  have := h b hb
  unfold lowB at this
  unfold idB idN
  simp only [Bool.or_eq_true, Bool.and_eq_true, decide_eq_true_eq] at this ⊢
  omega

/-! ### steps -/
/-- May a piece be a step, behind these? -/
def okStep (p : ByteArray) (n : Nat) : Bool := decide (p.size ≠ 0) && decide (p.size ≤ 60) && decide (n ≠ 4) && Lib.validD p.data.toList
/-- The steps, from the last d bytes on, a step begun at 'from', so many steps behind. -/
def stepsAt (s : ByteArray) : Nat → Nat → List ByteArray → Option (List ByteArray)
  | 0, fr, out => if okStep (s.extract fr s.size) out.length = true then some (out ++ [s.extract fr s.size]) else none
  | d + 1, fr, out => if s.data.toList.getD (s.size - (d + 1)) 0 = 46 then (if okStep (s.extract fr (s.size - (d + 1))) out.length = true then stepsAt s d (s.size - d) (out ++ [s.extract fr (s.size - (d + 1))]) else none) else stepsAt s d fr out
/-- A path's steps. -/
def stepsS (s : ByteArray) : Option (List ByteArray) := stepsAt s s.size 0 []

/-! ### indexes -/
/-- A field that may stand behind these. -/
def fieldS (l : List FD) (i : Nat) : Bool := match l[i]? with
  | none => true
  | some f => (stepsS f.path).isSome && decide (f.path.size ≤ 24) && plainS f.path && !(l.take i).any (fun g => decide (g.path = f.path))
def fieldsS (l : List FD) : Bool := allTo l.length (fieldS l)
def formX (x : IX) : Bool := nameS x.name && decide (1 ≤ x.fields.length) && decide (x.fields.length ≤ 3) && fieldsS x.fields
/-- An index of a size that is looked at. -/
def fewX (x : IX) : Bool := decide (x.fields.length ≤ 10) && (x.fields.all fun f => decide (f.path.size ≤ 1000)) && decide (x.name.size ≤ 1000)
end Go.Mu
