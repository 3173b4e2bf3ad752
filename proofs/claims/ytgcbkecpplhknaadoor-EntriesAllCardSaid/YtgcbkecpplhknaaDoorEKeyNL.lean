/- Walks: a step's number and its place, of the program and of the reference. Walks: a step's place, of the program and of the reference. -/
import Derived.Test.YtgcbkecpplhknaaDoorEKeyPQ
import Derived.Test.YtgcbkecpplhknaaDoorJForm
import Derived.Test.YtgcbkecpplhknaaDoorOpen
import Derived.Test.YtgcbkecpplhknaaDoorJSameW


import Derived.WalkKit
import Derived.Deep.QuietTactic
import Derived.BigQuiet
import Derived.Outline
import Derived.Deep.DeepMust
import Derived.Deep.CutBlock
import Derived.Deep.DeepCutAuto
import Derived.Deep.RegionWith
import Derived.WalkSpells
import Derived.WalkLawsBesides
import Derived.Test.YtgcbkecpplhknaaDoorMu
import Derived.Test.YtgcbkecpplhknaaDoorProg
set_option linter.unusedVariables false
set_option linter.unusedSimpArgs false
namespace Go.Proofs.YtgcbkecpplhknaaDoor
open Go.RowKit Go.Mu
end Go.Proofs.YtgcbkecpplhknaaDoor
namespace Go.Proofs.YtgcbkecpplhknaaDoor
open Go.RowKit Go.Mu

set_option maxHeartbeats 4000000 in
theorem number_calls (s : ByteArray) (w : World) : Calls Tryd.prog 89 #[.string s] w fun e w' => e = .returned (.int .i64 (numS s)) ∧ w' = w := by
  by_cases h0 : s.size = 0
  · have HN := K.mk (numS_zero h0)
    have q0 : ((s.size : Int) == 0) = true := beq_tt (by omega)
    clear h0
    go_enter Tryd.func89, Tryd.ntmps89
    go_wp2_with fail
    go_ret
    exact ⟨by rw [HN.o]; rfl, rfl⟩
  have q0 : ((s.size : Int) == 0) = false := beq_ff (by omega)
  by_cases h4 : 4 < s.size
  · have HN := K.mk (numS_long h4)
    have q4 : (4 : Int) < (s.size : Int) := by omega
    clear h0 h4
    go_enter Tryd.func89, Tryd.ntmps89
    go_wp2_with fail
    go_ret
    exact ⟨by rw [HN.o]; rfl, rfl⟩
  have q4 : ¬ (4 : Int) < (s.size : Int) := by omega
  have hlead : (¬ (1 : Int) < (s.size : Int) ∧ numS s = numL s.data.toList 0) ∨ ((1 : Int) < (s.size : Int) ∧ (∃ h : 0 < s.size, (((s[0]'h).toNat : Int) == 48) = true) ∧ numS s = -1) ∨ ((1 : Int) < (s.size : Int) ∧ (∃ h : 0 < s.size, (((s[0]'h).toNat : Int) == 48) = false) ∧ numS s = numL s.data.toList 0) := by
    by_cases h1 : 1 < s.size
    · right
      by_cases h2 : (s[0]'(by omega)).toNat = 48
      · left; exact ⟨by omega, ⟨by omega, beq_tt (by omega)⟩, numS_lead h1 h2⟩
      · right; exact ⟨by omega, ⟨by omega, beq_ff (by omega)⟩, numS_more h1 (by omega) h2⟩
    · left; exact ⟨by omega, numS_one (by omega)⟩
  have hp : (0 : Int) < (s.size : Int) := by omega
  have hs4 : s.size ≤ 4 := by omega
  rcases hlead with ⟨q1, hn⟩ | ⟨q1, ⟨h, q2⟩, hn⟩ | ⟨q1, ⟨h, q2⟩, hn⟩
  case inr.inl =>
    have HN := K.mk hn
    clear hn h0 h4
    go_enter Tryd.func89, Tryd.ntmps89
    go_wp2_with fail
    go_ret
    exact ⟨by rw [HN.o]; rfl, rfl⟩
  all_goals
    have HN := K.mk hn
    clear hn h0 h4
    go_enter Tryd.func89, Tryd.ntmps89
    go_wp2_with fail
    go_loopg [3, 4] s.size (fun g s3 s4 wr => ∃ k n : Nat, k ≤ s.size ∧ s.size - k ≤ g ∧ s4 = .int .i64 k ∧ s3 = .int .i64 n ∧ n < 10 ^ k ∧ K (numS s = numL (s.data.toList.drop k) n) ∧ wr = w)
    case atStart => exact ⟨0, 0, Nat.zero_le _, Nat.le_refl _, rfl, rfl, by decide, ⟨HN.o⟩, rfl⟩
    case round =>
      obtain ⟨k, n, hk, hg, rfl, rfl, hn, HM, rfl⟩ := hrel
      have hn4 : n < 10000 := Nat.lt_of_lt_of_le hn (Nat.pow_le_pow_right (by decide) (by omega : k ≤ 4))
      rcases Nat.lt_or_ge k s.size with hlt | hge
      · have hlt' : (k : Int) < (s.size : Int) := by omega
        have ha := numL_at hlt n
        by_cases c1 : (s[k]'hlt).toNat < 48
        · rw [if_pos (.inl c1)] at ha
          have HA := K.mk (HM.o.trans ha)
          have c1' : ((s[k]'hlt).toNat : Int) < 48 := by omega
          clear ha c1
          go_wp2_with fail
          go_ret
          exact ⟨by rw [HA.o]; rfl, rfl⟩
        · by_cases c2 : 57 < (s[k]'hlt).toNat
          · rw [if_pos (.inr c2)] at ha
            have HA := K.mk (HM.o.trans ha)
            have c1' : ¬ ((s[k]'hlt).toNat : Int) < 48 := by omega
            have c2' : (57 : Int) < ((s[k]'hlt).toNat : Int) := by omega
            clear ha c1 c2
            go_wp2_with fail
            go_ret
            exact ⟨by rw [HA.o]; rfl, rfl⟩
          · rw [if_neg (by omega)] at ha
            have HA := K.mk (HM.o.trans ha)
            have c1' : ¬ ((s[k]'hlt).toNat : Int) < 48 := by omega
            have c2' : ¬ (57 : Int) < ((s[k]'hlt).toNat : Int) := by omega
            have c3 : (0 : Int) ≤ ((s[k]'hlt).toNat : Int) - 48 := by omega
            clear ha
            go_wp2_with fail
            go_roundg (s.size - (k + 1))
            case measure => omega
            case rel => exact ⟨k + 1, n * 10 + ((s[k]'hlt).toNat - 48), by omega, Nat.le_refl _, by go_num, by go_num, by rw [Nat.pow_succ]; omega, ⟨HA.o⟩, rfl⟩
      · have hkk : k = s.size := by omega
        have hlt' : ¬ (k : Int) < (s.size : Int) := by omega
        have HA := K.mk (HM.o.trans (numL_end hkk n))
        go_wp2_with fail
        go_ret
        exact ⟨by rw [HA.o]; rfl, rfl⟩
set_option maxHeartbeats 4000000 in
theorem refNumber_calls (s : ByteArray) (w : World) : Calls Tryd.prog 119 #[.string s] w fun e w' => e = .returned (.int .i64 (numS s)) ∧ w' = w := by
  by_cases h0 : s.size = 0
  · have HN := K.mk (numS_zero h0)
    have q0 : ((s.size : Int) == 0) = true := beq_tt (by omega)
    clear h0
    go_enter Tryd.func119, Tryd.ntmps119
    go_wp2_with fail
    go_ret
    exact ⟨by rw [HN.o]; rfl, rfl⟩
  have q0 : ((s.size : Int) == 0) = false := beq_ff (by omega)
  by_cases h4 : 4 < s.size
  · have HN := K.mk (numS_long h4)
    have q4 : (4 : Int) < (s.size : Int) := by omega
    clear h0 h4
    go_enter Tryd.func119, Tryd.ntmps119
    go_wp2_with fail
    go_ret
    exact ⟨by rw [HN.o]; rfl, rfl⟩
  have q4 : ¬ (4 : Int) < (s.size : Int) := by omega
  have hlead : (¬ (1 : Int) < (s.size : Int) ∧ numS s = numL s.data.toList 0) ∨ ((1 : Int) < (s.size : Int) ∧ (∃ h : 0 < s.size, (((s[0]'h).toNat : Int) == 48) = true) ∧ numS s = -1) ∨ ((1 : Int) < (s.size : Int) ∧ (∃ h : 0 < s.size, (((s[0]'h).toNat : Int) == 48) = false) ∧ numS s = numL s.data.toList 0) := by
    by_cases h1 : 1 < s.size
    · right
      by_cases h2 : (s[0]'(by omega)).toNat = 48
      · left; exact ⟨by omega, ⟨by omega, beq_tt (by omega)⟩, numS_lead h1 h2⟩
      · right; exact ⟨by omega, ⟨by omega, beq_ff (by omega)⟩, numS_more h1 (by omega) h2⟩
    · left; exact ⟨by omega, numS_one (by omega)⟩
  have hp : (0 : Int) < (s.size : Int) := by omega
  have hs4 : s.size ≤ 4 := by omega
  rcases hlead with ⟨q1, hn⟩ | ⟨q1, ⟨h, q2⟩, hn⟩ | ⟨q1, ⟨h, q2⟩, hn⟩
  case inr.inl =>
    have HN := K.mk hn
    clear hn h0 h4
    go_enter Tryd.func119, Tryd.ntmps119
    go_wp2_with fail
    go_ret
    exact ⟨by rw [HN.o]; rfl, rfl⟩
  all_goals
    have HN := K.mk hn
    clear hn h0 h4
    go_enter Tryd.func119, Tryd.ntmps119
    go_wp2_with fail
    go_loopg [3, 4] s.size (fun g s3 s4 wr => ∃ k n : Nat, k ≤ s.size ∧ s.size - k ≤ g ∧ s4 = .int .i64 k ∧ s3 = .int .i64 n ∧ n < 10 ^ k ∧ K (numS s = numL (s.data.toList.drop k) n) ∧ wr = w)
    case atStart => exact ⟨0, 0, Nat.zero_le _, Nat.le_refl _, rfl, rfl, by decide, ⟨HN.o⟩, rfl⟩
    case round =>
      obtain ⟨k, n, hk, hg, rfl, rfl, hn, HM, rfl⟩ := hrel
      have hn4 : n < 10000 := Nat.lt_of_lt_of_le hn (Nat.pow_le_pow_right (by decide) (by omega : k ≤ 4))
      rcases Nat.lt_or_ge k s.size with hlt | hge
      · have hlt' : (k : Int) < (s.size : Int) := by omega
        have ha := numL_at hlt n
        by_cases c1 : (s[k]'hlt).toNat < 48
        · rw [if_pos (.inl c1)] at ha
          have HA := K.mk (HM.o.trans ha)
          have c1' : ((s[k]'hlt).toNat : Int) < 48 := by omega
          clear ha c1
          go_wp2_with fail
          go_ret
          exact ⟨by rw [HA.o]; rfl, rfl⟩
        · by_cases c2 : 57 < (s[k]'hlt).toNat
          · rw [if_pos (.inr c2)] at ha
            have HA := K.mk (HM.o.trans ha)
            have c1' : ¬ ((s[k]'hlt).toNat : Int) < 48 := by omega
            have c2' : (57 : Int) < ((s[k]'hlt).toNat : Int) := by omega
            clear ha c1 c2
            go_wp2_with fail
            go_ret
            exact ⟨by rw [HA.o]; rfl, rfl⟩
          · rw [if_neg (by omega)] at ha
            have HA := K.mk (HM.o.trans ha)
            have c1' : ¬ ((s[k]'hlt).toNat : Int) < 48 := by omega
            have c2' : ¬ (57 : Int) < ((s[k]'hlt).toNat : Int) := by omega
            have c3 : (0 : Int) ≤ ((s[k]'hlt).toNat : Int) - 48 := by omega
            clear ha
            go_wp2_with fail
            go_roundg (s.size - (k + 1))
            case measure => omega
            case rel => exact ⟨k + 1, n * 10 + ((s[k]'hlt).toNat - 48), by omega, Nat.le_refl _, by go_num, by go_num, by rw [Nat.pow_succ]; omega, ⟨HA.o⟩, rfl⟩
      · have hkk : k = s.size := by omega
        have hlt' : ¬ (k : Int) < (s.size : Int) := by omega
        have HA := K.mk (HM.o.trans (numL_end hkk n))
        go_wp2_with fail
        go_ret
        exact ⟨by rw [HA.o]; rfl, rfl⟩
end Go.Proofs.YtgcbkecpplhknaaDoor

namespace Go.Proofs.YtgcbkecpplhknaaDoor
open Go.RowKit Go.Mu

set_option maxRecDepth 100000 in
set_option maxHeartbeats 4000000 in
theorem place_calls (v : JV) (s : ByteArray) (cs : List Value) (S : Blocks) (w : World) (h : RV w S v cs) : Calls Tryd.prog 57 #[.agg cs.toArray, .string s] w fun e w' => e = .returned (.int .i64 (placeS v s)) ∧ Below w.heap.size w w' := by
  have HC := K.mk (fun W => number_calls s W)
  have hge := numS_ge s
  obtain ⟨An, cn, Ai, ci, rfl, hnm, hit, hk, hn, ht⟩ := h.wide
  have hilen := hit.len_le
  have hnlen := hnm.len_le
  have HNM := K.mk hnm
  clear hnm hit h
  by_cases k5 : v.kind = 5
  · have q5 : (v.kind == 5) = true := beq_tt k5
    have q6 : (v.kind == 6) = false := beq_ff (by omega)
    by_cases hlt : numS s < v.items.length
    · have HP := K.mk (show placeS v s = numS s by unfold placeS; rw [if_pos ⟨k5, hlt⟩])
      generalize numS s = q at *
      clear k5
      go_enter Tryd.func57, Tryd.ntmps57
      go_wp2_with (go_at_call 89; go_must (refine (HC.o _).mono ?_); rintro e w1 ⟨rfl, rfl⟩)
      go_ret
      exact ⟨by rw [HP.o]; rfl, below_a1 _ _⟩
    · have HP := K.mk (show placeS v s = -1 by unfold placeS; rw [if_neg (fun h => hlt h.2), if_neg (by omega)])
      generalize numS s = q at *
      clear k5
      go_enter Tryd.func57, Tryd.ntmps57
      go_wp2_with (go_at_call 89; go_must (refine (HC.o _).mono ?_); rintro e w1 ⟨rfl, rfl⟩)
      go_ret
      exact ⟨by rw [HP.o]; rfl, below_a1 _ _⟩
  · have q5 : (v.kind == 5) = false := beq_ff k5
    by_cases k6 : v.kind = 6
    · have q6 : (v.kind == 6) = true := beq_tt k6
      have HP := K.mk (show placeS v s = idxN s v.names 0 by unfold placeS; rw [if_neg (fun h => k5 h.1), if_pos k6])
      clear k5 k6 hge
      go_enter Tryd.func57, Tryd.ntmps57
      go_wp2_with fail
      go_loopg [6] v.names.length (fun g s6 wr => ∃ k : Nat, k ≤ v.names.length ∧ v.names.length - k ≤ g ∧ s6 = .int .i64 k ∧ K (idxN s v.names 0 = idxN s (v.names.drop k) k) ∧ K (Below w.heap.size w wr) ∧ K (Blk wr w.heap.size 37 [.int .i64 v.kind, .int .i64 v.num, .string v.text, .slice An v.names.length cn, .slice Ai v.items.length ci]))
      case atStart => exact ⟨0, Nat.zero_le _, Nat.le_refl _, rfl, ⟨rfl⟩, ⟨below_a1 _ _⟩, ⟨Blk.new _ _ _⟩⟩
      case round =>
        obtain ⟨k, hk', hg, rfl, HX, HB, HV⟩ := hrel
        have v3 := HV.o.cell 3 rfl
        have hvl := HV.o.lt
        rcases Nat.lt_or_ge k v.names.length with hlt | hge
        · have hlt' : (k : Int) < (v.names.length : Int) := by omega
          obtain ⟨b, o, x, xcs, rfl, hS, hb, hx, hRx, hcx⟩ := HNM.o.at k hlt
          obtain ⟨rfl, hxs⟩ := hRx
          have c0 : wr.cell? ⟨b, o + k, none⟩ = some (.string x) := by have := (hcx.below HB.o) 0 _ rfl; simpa using this
          have hbw : b < wr.heap.size := Nat.lt_of_lt_of_le hb HB.o.size
          have hi := idxN_at (s := s) hx k
          by_cases hxe : x = s
          · rw [if_pos hxe] at hi
            have HI := K.mk (HP.o.trans (HX.o.trans hi))
            have qe : (x.toList == s.toList) = true := by rw [hxe]; simp
            clear hi hx hcx hxe
            go_wp2_with fail
            go_ret
            exact ⟨by rw [HI.o]; rfl, HB.o⟩
          · rw [if_neg hxe] at hi
            have HI := K.mk (HX.o.trans hi)
            have qe : (x.toList == s.toList) = false := toList_ne hxe
            clear hi hx hcx hxe
            go_wp2_with fail
            go_roundg (v.names.length - (k + 1))
            case measure => omega
            case rel => exact ⟨k + 1, by omega, Nat.le_refl _, by go_num, ⟨HI.o⟩, HB, HV⟩
        · have hkk : k = v.names.length := by omega
          have hlt' : ¬ (k : Int) < (v.names.length : Int) := by omega
          have HI := K.mk (HP.o.trans (HX.o.trans (idxN_end hkk k)))
          go_wp2_with fail
          go_ret
          exact ⟨by rw [HI.o]; rfl, HB.o⟩
    · have q6 : (v.kind == 6) = false := beq_ff k6
      have HP := K.mk (show placeS v s = -1 by unfold placeS; rw [if_neg (fun h => k5 h.1), if_neg k6])
      clear k5 k6 hge
      go_enter Tryd.func57, Tryd.ntmps57
      go_wp2_with fail
      go_ret
      exact ⟨by rw [HP.o]; rfl, below_a1 _ _⟩
set_option maxRecDepth 100000 in
set_option maxHeartbeats 4000000 in
theorem refPlace_calls (v : JV) (s : ByteArray) (cs : List Value) (S : Blocks) (w : World) (h : RV w S v cs) : Calls Tryd.prog 86 #[.agg cs.toArray, .string s] w fun e w' => e = .returned (.int .i64 (placeS v s)) ∧ Below w.heap.size w w' := by
  have HC := K.mk (fun W => refNumber_calls s W)
  have hge := numS_ge s
  obtain ⟨An, cn, Ai, ci, rfl, hnm, hit, hk, hn, ht⟩ := h.wide
  have hilen := hit.len_le
  have hnlen := hnm.len_le
  have HNM := K.mk hnm
  clear hnm hit h
  by_cases k5 : v.kind = 5
  · have q5 : (v.kind == 5) = true := beq_tt k5
    have q6 : (v.kind == 6) = false := beq_ff (by omega)
    by_cases hlt : numS s < v.items.length
    · have HP := K.mk (show placeS v s = numS s by unfold placeS; rw [if_pos ⟨k5, hlt⟩])
      generalize numS s = q at *
      clear k5
      go_enter Tryd.func86, Tryd.ntmps86
      go_wp2_with (go_at_call 119; go_must (refine (HC.o _).mono ?_); rintro e w1 ⟨rfl, rfl⟩)
      go_ret
      exact ⟨by rw [HP.o]; rfl, below_a1 _ _⟩
    · have HP := K.mk (show placeS v s = -1 by unfold placeS; rw [if_neg (fun h => hlt h.2), if_neg (by omega)])
      generalize numS s = q at *
      clear k5
      go_enter Tryd.func86, Tryd.ntmps86
      go_wp2_with (go_at_call 119; go_must (refine (HC.o _).mono ?_); rintro e w1 ⟨rfl, rfl⟩)
      go_ret
      exact ⟨by rw [HP.o]; rfl, below_a1 _ _⟩
  · have q5 : (v.kind == 5) = false := beq_ff k5
    by_cases k6 : v.kind = 6
    · have q6 : (v.kind == 6) = true := beq_tt k6
      have HP := K.mk (show placeS v s = idxN s v.names 0 by unfold placeS; rw [if_neg (fun h => k5 h.1), if_pos k6])
      clear k5 k6 hge
      go_enter Tryd.func86, Tryd.ntmps86
      go_wp2_with fail
      go_loopg [6] v.names.length (fun g s6 wr => ∃ k : Nat, k ≤ v.names.length ∧ v.names.length - k ≤ g ∧ s6 = .int .i64 k ∧ K (idxN s v.names 0 = idxN s (v.names.drop k) k) ∧ K (Below w.heap.size w wr) ∧ K (Blk wr w.heap.size 37 [.int .i64 v.kind, .int .i64 v.num, .string v.text, .slice An v.names.length cn, .slice Ai v.items.length ci]))
      case atStart => exact ⟨0, Nat.zero_le _, Nat.le_refl _, rfl, ⟨rfl⟩, ⟨below_a1 _ _⟩, ⟨Blk.new _ _ _⟩⟩
      case round =>
        obtain ⟨k, hk', hg, rfl, HX, HB, HV⟩ := hrel
        have v3 := HV.o.cell 3 rfl
        have hvl := HV.o.lt
        rcases Nat.lt_or_ge k v.names.length with hlt | hge
        · have hlt' : (k : Int) < (v.names.length : Int) := by omega
          obtain ⟨b, o, x, xcs, rfl, hS, hb, hx, hRx, hcx⟩ := HNM.o.at k hlt
          obtain ⟨rfl, hxs⟩ := hRx
          have c0 : wr.cell? ⟨b, o + k, none⟩ = some (.string x) := by have := (hcx.below HB.o) 0 _ rfl; simpa using this
          have hbw : b < wr.heap.size := Nat.lt_of_lt_of_le hb HB.o.size
          have hi := idxN_at (s := s) hx k
          by_cases hxe : x = s
          · rw [if_pos hxe] at hi
            have HI := K.mk (HP.o.trans (HX.o.trans hi))
            have qe : (x.toList == s.toList) = true := by rw [hxe]; simp
            clear hi hx hcx hxe
            go_wp2_with fail
            go_ret
            exact ⟨by rw [HI.o]; rfl, HB.o⟩
          · rw [if_neg hxe] at hi
            have HI := K.mk (HX.o.trans hi)
            have qe : (x.toList == s.toList) = false := toList_ne hxe
            clear hi hx hcx hxe
            go_wp2_with fail
            go_roundg (v.names.length - (k + 1))
            case measure => omega
            case rel => exact ⟨k + 1, by omega, Nat.le_refl _, by go_num, ⟨HI.o⟩, HB, HV⟩
        · have hkk : k = v.names.length := by omega
          have hlt' : ¬ (k : Int) < (v.names.length : Int) := by omega
          have HI := K.mk (HP.o.trans (HX.o.trans (idxN_end hkk k)))
          go_wp2_with fail
          go_ret
          exact ⟨by rw [HI.o]; rfl, HB.o⟩
    · have q6 : (v.kind == 6) = false := beq_ff k6
      have HP := K.mk (show placeS v s = -1 by unfold placeS; rw [if_neg (fun h => k5 h.1), if_neg k6])
      clear k5 k6 hge
      go_enter Tryd.func86, Tryd.ntmps86
      go_wp2_with fail
      go_ret
      exact ⟨by rw [HP.o]; rfl, below_a1 _ _⟩
end Go.Proofs.YtgcbkecpplhknaaDoor
