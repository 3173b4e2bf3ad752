/- Walks: names and plain texts of the program and of the reference. -/
import Derived.Test.YtgcbkecpplhknaaDoorEPlain
import Derived.Test.YtgcbkecpplhknaaDoorJForm


import Derived.WalkKit
import Derived.Deep.QuietTactic
import Derived.BigQuiet
import Derived.Outline
import Derived.Deep.DeepMust
import Derived.Deep.CutBlock
import Derived.Deep.DeepCutAuto
import Derived.Deep.RegionWith
import Derived.WalkSpells
import Derived.WalkLawsBesides
import Derived.Test.YtgcbkecpplhknaaDoorMu
import Derived.Test.YtgcbkecpplhknaaDoorProg
set_option linter.unusedVariables false
set_option linter.unusedSimpArgs false
namespace Go.Proofs.YtgcbkecpplhknaaDoor
open Go.RowKit Go.Mu

set_option maxHeartbeats 4000000 in
/-- The closure within plain. -/
theorem plain1_calls (n : Nat) (hn : n ≤ 1114111) (w : World) :
    Calls Tryd.prog 66 #[.int .i32 (n : Int)] w fun e w' => e = .returned (.bool (badRune n)) ∧ w' = w := by
  have key : badRune n = ((decide ((n : Int) < 65) || decide ((n : Int) > 90)) && (decide ((n : Int) < 97) || decide ((n : Int) > 122)) && (decide ((n : Int) < 48) || decide ((n : Int) > 57)) && ((n : Int) != 95) && ((n : Int) != 46)) := by
    unfold badRune idN
    rw [Bool.eq_iff_iff]
    simp
    omega
  have HK := K.mk key
  clear key
  go_enter Tryd.func66, Tryd.ntmps66
  go_wp2_with fail
  all_goals
    go_ret
    exact ⟨ret_bool (by rw [HK.o]; try simp [*]), rfl⟩

set_option maxHeartbeats 4000000 in
theorem plain_calls (s : ByteArray) (w : World) :
    Calls Tryd.prog 41 #[.string s] w fun e w' => e = .returned (.bool (plainS s)) ∧ Below w.heap.size w w' := by
  have e1 : ∀ args w, (callFunc 66 args).run Tryd.prog w = .ok (.enter 66 args) w := enters_of Tryd.func66 (by kernel_rfl) rfl
  have hc := Tryd.strings_ContainsFunc_runes 66 #[] e1 badRune s w (fun W x hx hb => (plain1_calls x hx W).mono fun e w' ⟨h1, h2⟩ => ⟨h1, 0, h2⟩)
  rw [idxFunc_plain] at hc
  have HC := K.mk hc
  clear hc e1
  go_enter Tryd.func41, Tryd.ntmps41
  go_wp2_with (go_at_call 65; go_must (refine HC.o.mono ?_); rintro e w' ⟨rfl, hb'⟩)
  go_ret
  exact ⟨rfl, hb'⟩

/-- What Name asks, in its order. -/
theorem name_cases (s : ByteArray) :
    (¬ (1 : Int) ≤ (s.size : Int) ∧ nameS s = false) ∨ ((1 : Int) ≤ (s.size : Int) ∧ ¬ (s.size : Int) ≤ 12 ∧ nameS s = false) ∨
    ((1 : Int) ≤ (s.size : Int) ∧ (s.size : Int) ≤ 12 ∧ plainS s = false ∧ nameS s = false) ∨
    ((1 : Int) ≤ (s.size : Int) ∧ (s.size : Int) ≤ 12 ∧ plainS s = true ∧ (Lib.toLowerA s.data.toList == s.toList) = false ∧ nameS s = false) ∨
    ((1 : Int) ≤ (s.size : Int) ∧ (s.size : Int) ≤ 12 ∧ plainS s = true ∧ (Lib.toLowerA s.data.toList == s.toList) = true ∧ nameS s = !Lib.containsAny s.data.toList [95, 46]) := by
  by_cases h1 : 1 ≤ s.size
  · by_cases h2 : s.size ≤ 12
    · cases h3 : plainS s with
      | false =>
        right; right; left
        refine ⟨by omega, by omega, rfl, ?_⟩
        unfold nameS
        cases h4 : allLow s with
        | false => simp
        | true => rw [low_plain h4] at h3; cases h3
      | true =>
        have h4 := low_of_plain h3
        by_cases h5 : Lib.toLowerA s.data.toList = s.data.toList
        · right; right; right; right
          refine ⟨by omega, by omega, rfl, ?_, ?_⟩
          · rw [h5, ByteArray.toList_eq]; simp
          · unfold nameS; rw [h4]; simp [h1, h2, h5]
        · right; right; right; left
          refine ⟨by omega, by omega, rfl, ?_, ?_⟩
          · rw [beq_eq_false_iff_ne, ByteArray.toList_eq]; exact h5
          · unfold nameS; rw [h4]; simp [h5]
    · right; left; exact ⟨by omega, by omega, by unfold nameS; simp [h2]⟩
  · left; exact ⟨by omega, by unfold nameS; simp [h1]⟩

set_option maxHeartbeats 4000000 in
theorem Name_calls (s : ByteArray) (w : World) :
    Calls Tryd.prog 15 #[.string s] w fun e w' => e = .returned (.bool (nameS s)) ∧ Below w.heap.size w w' := by
  have HP := K.mk (fun W => plain_calls s W)
  have HL := K.mk (fun (hs : s.size ≤ 12) (hp : plainS s = true) W => Tryd.strings_ToLower_ascii s W (by omega) (plain_ascii hp))
  have HA := K.mk (fun (hs : s.size ≤ 12) (hp : plainS s = true) W => Tryd.strings_ContainsAny_laid s (⟨#[95, 46]⟩ : ByteArray) W (by omega) (by decide) (plain_ascii hp) (fun j b hj => by
    match j, hj with
    | 0, hj => simp at hj; subst hj; decide
    | 1, hj => simp at hj; subst hj; decide
    | j + 2, hj => simp at hj))
  rcases name_cases s with ⟨q1, hq⟩ | ⟨q1, q2, hq⟩ | ⟨q1, q2, q3, hq⟩ | ⟨q1, q2, q3, q4, hq⟩ | ⟨q1, q2, q3, q4, hq⟩
  · have HQ := K.mk hq
    clear hq
    go_enter Tryd.func15, Tryd.ntmps15
    go_wp2_with fail
    go_ret
    exact ⟨ret_bool HQ.o.symm, Below.refl _ _⟩
  · have HQ := K.mk hq
    clear hq
    go_enter Tryd.func15, Tryd.ntmps15
    go_wp2_with fail
    go_ret
    exact ⟨ret_bool HQ.o.symm, Below.refl _ _⟩
  · have HQ := K.mk hq
    rw [q3] at HP
    clear hq q3
    go_enter Tryd.func15, Tryd.ntmps15
    go_wp2_with (go_at_call 41; go_must (refine (HP.o _).mono ?_); rintro e w1 ⟨rfl, hb1⟩)
    go_ret
    exact ⟨ret_bool HQ.o.symm, hb1⟩
  · have HQ := K.mk hq
    have HLL := K.mk (HL.o (by omega) q3)
    rw [q3] at HP
    clear hq q3 HL HA
    go_enter Tryd.func15, Tryd.ntmps15
    go_wp2_with (first | (go_at_call 41; go_must (refine (HP.o _).mono ?_); rintro e w1 ⟨rfl, hb1⟩) | (go_at_call 46; go_must (refine (HLL.o _).mono ?_); rintro e w2 ⟨rfl, hb2⟩))
    go_ret
    exact ⟨ret_bool HQ.o.symm, below2 hb1 hb2⟩
  · have HLL := K.mk (HL.o (by omega) q3)
    have HAA := K.mk (HA.o (by omega) q3)
    rw [q3] at HP
    rw [show (⟨#[95, 46]⟩ : ByteArray).data.toList = [95, 46] from rfl, ] at HAA
    generalize Lib.containsAny s.data.toList [95, 46] = q at *
    have HQ := K.mk hq
    clear hq q3 HL HA
    go_enter Tryd.func15, Tryd.ntmps15
    go_wp2_with (first | (go_at_call 41; go_must (refine (HP.o _).mono ?_); rintro e w1 ⟨rfl, hb1⟩) | (go_at_call 46; go_must (refine (HLL.o _).mono ?_); rintro e w2 ⟨rfl, hb2⟩) | (go_at_call 47; go_must (refine (HAA.o _).mono ?_); rintro e w3 ⟨rfl, hb3⟩))
    go_ret
    exact ⟨ret_bool HQ.o.symm, below2 (below2 hb1 hb2) hb3⟩

/-! ### the reference -/
theorem all_snoc (p : UInt8 → Bool) (s : ByteArray) (k : Nat) (hk : k < s.size) : (s.data.toList.take (k + 1)).all p = ((s.data.toList.take k).all p && p (s[k]'hk)) := by
  rw [List.take_add_one, List.getElem?_eq_getElem (by simpa using hk)]
  simp only [Option.toList_some, List.all_append, List.all_cons, List.all_nil, Bool.and_true]
  rfl
theorem all_bad (p : UInt8 → Bool) (s : ByteArray) (k : Nat) (hk : k < s.size) (h : p (s[k]'hk) = false) : s.data.toList.all p = false := by
  rw [List.all_eq_false]
  exact ⟨_, List.getElem_mem (l := s.data.toList) (n := k) (by simpa using hk), by
    have : s.data.toList[k]'(by simpa using hk) = s[k]'hk := rfl
    rw [this, h]; simp⟩

set_option maxHeartbeats 4000000 in
theorem refName_calls (s : ByteArray) (hs : s.size ≤ strMax) (w : World) :
    Calls Tryd.prog 16 #[.string s] w fun e w' => e = .returned (.bool (nameS s)) ∧ w' = w := by
  have hs' : s.size ≤ 281474976710656 := hs
  clear hs
  go_enter Tryd.func16, Tryd.ntmps16
  go_wp2_with fail
  go_loopg [3] s.size (fun g s3 wr => ∃ k : Nat, k ≤ s.size ∧ s.size - k ≤ g ∧ s3 = .int .i64 k ∧ K ((s.data.toList.take k).all lowB = true) ∧ K (wr = w))
  case atStart => exact ⟨0, Nat.zero_le _, Nat.le_refl _, rfl, ⟨by simp⟩, ⟨rfl⟩⟩
  case round =>
    obtain ⟨k, hk', hg, rfl, HD, HW⟩ := hrel
    rcases Nat.lt_or_ge k s.size with hlt | hge
    · have hlt' : (k : Int) < (s.size : Int) := by omega
      have key : lowB (s[k]'hlt) = !((decide (((s[k]'hlt).toNat : Int) < 97) || decide ((122 : Int) < ((s[k]'hlt).toNat : Int))) && (decide (((s[k]'hlt).toNat : Int) < 48) || decide ((57 : Int) < ((s[k]'hlt).toNat : Int)))) := by
        unfold lowB
        rw [Bool.eq_iff_iff]
        simp
        omega
      have HK := K.mk key
      have HS := K.mk (all_snoc lowB s k hlt)
      have HF := K.mk (all_bad lowB s k hlt)
      clear key
      go_wp2_with fail
      all_goals first
        | (go_ret
           exact ⟨ret_bool (by
             have h1 : lowB (s[k]'hlt) = false := by rw [HK.o]; simp; (try (simp only [bne_eq_false_iff_eq, bne_iff_ne, ne_eq] at *)); omega
             unfold nameS allLow
             rw [HF.o h1]; simp), HW.o⟩)
        | (go_roundg (s.size - (k + 1))
           case measure => omega
           case rel => exact ⟨k + 1, by omega, Nat.le_refl _, by go_num, ⟨by
             have h1 : lowB (s[k]'hlt) = true := by rw [HK.o]; simp; (try (simp only [bne_eq_false_iff_eq, bne_iff_ne, ne_eq] at *)); omega
             rw [HS.o, HD.o, h1]; rfl⟩, HW⟩)
    · have hge' : ¬ (k : Int) < (s.size : Int) := by omega
      have hkk : k = s.size := by omega
      have hA : K (allLow s = true) := ⟨by
        have h := HD.o
        rw [hkk, show s.size = s.data.toList.length from rfl, List.take_length] at h
        exact h⟩
      clear hkk
      by_cases h1 : (1 : Int) ≤ (s.size : Int)
      · have hN : K (nameS s = decide ((s.size : Int) ≤ 12)) := ⟨by
          unfold nameS; rw [hA.o]
          rw [Bool.eq_iff_iff]; simp; omega⟩
        go_wp2_with fail
        go_ret
        exact ⟨ret_bool (by rw [hN.o]), HW.o⟩
      · have hN : K (nameS s = false) := ⟨by
          unfold nameS
          rw [Bool.eq_false_iff]; simp; omega⟩
        go_wp2_with fail
        go_ret
        exact ⟨ret_bool (by rw [hN.o]), HW.o⟩

set_option maxHeartbeats 4000000 in
theorem simple_calls (s : ByteArray) (hs : s.size ≤ strMax) (w : World) :
    Calls Tryd.prog 45 #[.string s] w fun e w' => e = .returned (.bool (plainS s && decide (s.size ≤ 24))) ∧ w' = w := by
  have hs' : s.size ≤ 281474976710656 := hs
  clear hs
  go_enter Tryd.func45, Tryd.ntmps45
  go_wp2_with fail
  go_loopg [3] s.size (fun g s3 wr => ∃ k : Nat, k ≤ s.size ∧ s.size - k ≤ g ∧ s3 = .int .i64 k ∧ K ((s.data.toList.take k).all idB = true) ∧ K (wr = w))
  case atStart => exact ⟨0, Nat.zero_le _, Nat.le_refl _, rfl, ⟨by simp⟩, ⟨rfl⟩⟩
  case round =>
    obtain ⟨k, hk', hg, rfl, HD, HW⟩ := hrel
    rcases Nat.lt_or_ge k s.size with hlt | hge
    · have hlt' : (k : Int) < (s.size : Int) := by omega
      have key : idB (s[k]'hlt) = !((decide (((s[k]'hlt).toNat : Int) < 65) || decide ((90 : Int) < ((s[k]'hlt).toNat : Int))) && (decide (((s[k]'hlt).toNat : Int) < 97) || decide ((122 : Int) < ((s[k]'hlt).toNat : Int))) && (decide (((s[k]'hlt).toNat : Int) < 48) || decide ((57 : Int) < ((s[k]'hlt).toNat : Int))) && (((s[k]'hlt).toNat : Int) != 95) && (((s[k]'hlt).toNat : Int) != 46)) := by
        unfold idB idN
        rw [Bool.eq_iff_iff]
        simp
        omega
      have HK := K.mk key
      have HS := K.mk (all_snoc idB s k hlt)
      have HF := K.mk (all_bad idB s k hlt)
      clear key
      go_wp2_with fail
      all_goals first
        | (go_ret
           exact ⟨ret_bool (by
             have h1 : idB (s[k]'hlt) = false := by rw [HK.o]; simp; (try (simp only [bne_eq_false_iff_eq, bne_iff_ne, ne_eq] at *)); omega
             unfold plainS
             rw [HF.o h1]; simp), HW.o⟩)
        | (go_roundg (s.size - (k + 1))
           case measure => omega
           case rel => exact ⟨k + 1, by omega, Nat.le_refl _, by go_num, ⟨by
             have h1 : idB (s[k]'hlt) = true := by rw [HK.o]; simp; (try (simp only [bne_eq_false_iff_eq, bne_iff_ne, ne_eq] at *)); omega
             rw [HS.o, HD.o, h1]; rfl⟩, HW⟩)
    · have hge' : ¬ (k : Int) < (s.size : Int) := by omega
      have hkk : k = s.size := by omega
      have hA : K (plainS s = true) := ⟨by
        have h := HD.o
        rw [hkk, show s.size = s.data.toList.length from rfl, List.take_length] at h
        exact h⟩
      clear hkk
      go_wp2_with fail
      go_ret
      exact ⟨ret_bool (by rw [hA.o, Bool.eq_iff_iff]; simp; omega), HW.o⟩

end Go.Proofs.YtgcbkecpplhknaaDoor
