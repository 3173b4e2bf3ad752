/- Walks: slices.Equal over names. -/
import Derived.Test.YtgcbkecpplhknaaDoorJSame
import Derived.Test.YtgcbkecpplhknaaDoorBw


import Derived.WalkKit
import Derived.Deep.QuietTactic
import Derived.BigQuiet
import Derived.Outline
import Derived.Deep.DeepMust
import Derived.Deep.CutBlock
import Derived.Deep.DeepCutAuto
import Derived.Deep.RegionWith
import Derived.WalkSpells
import Derived.WalkLawsBesides
import Derived.Test.YtgcbkecpplhknaaDoorMu
import Derived.Test.YtgcbkecpplhknaaDoorProg
set_option linter.unusedVariables false
set_option linter.unusedSimpArgs false
namespace Go.Proofs.YtgcbkecpplhknaaDoor
open Go.RowKit Go.Mu

/-- Two lists of names are alike. -/
def namesEq (l l' : List ByteArray) : Bool := decide (l = l')

theorem toList_ne {a b : ByteArray} (h : a ≠ b) : (a.toList == b.toList) = false := by
  rw [beq_eq_false_iff_ne]; intro h2
  rw [ByteArray.toList_eq, ByteArray.toList_eq] at h2
  apply h
  cases a; cases b; rename_i x y; cases x; cases y; simp at h2; simp [h2]
theorem list_diff {α : Type} {l l' : List α} (k : Nat) (h : l[k]? ≠ l'[k]?) : l ≠ l' := by rintro rfl; exact h rfl
theorem list_alike {α : Type} {l l' : List α} (hl : l.length = l'.length) (h : ∀ j, j < l.length → l[j]? = l'[j]?) : l = l' := by
  apply List.ext_getElem?
  intro j
  by_cases hj : j < l.length
  · exact h j hj
  · rw [List.getElem?_eq_none (by omega), List.getElem?_eq_none (by omega)]

set_option maxHeartbeats 2000000 in
theorem eqNames_calls (l l' : List ByteArray) (A A' : Option Addr) (c c' : Nat) (S S' : Blocks) (w : World)
    (h : SliceR (rStr.R w S) 1 w S l (.slice A l.length c)) (h' : SliceR (rStr.R w S') 1 w S' l' (.slice A' l'.length c')) :
    Calls Tryd.prog 49 #[.slice A l.length c, .slice A' l'.length c'] w fun e w' => e = .returned (.bool (namesEq l l')) ∧ Below w.heap.size w w' := by
  have hlen := h.len_le
  have hlen' := h'.len_le
  have HL := K.mk h
  have HL' := K.mk h'
  have HEQ := K.mk (show namesEq l l' = decide (l = l') from rfl)
  clear h h'
  by_cases hn : l.length = l'.length
  · have HN := K.mk hn
    rw [← hn]
    generalize hm : l.length = n at *
    have HM := K.mk hm
    clear hn hm
    go_enter Tryd.func49, Tryd.ntmps49
    go_wp2_with fail
    go_loopg [13] n (fun g s wr => ∃ k : Nat, k ≤ n ∧ n - k ≤ g ∧ s = .int .i64 k ∧ K (∀ j, j < k → l[j]? = l'[j]?) ∧ K (Below w.heap.size w wr))
    case atStart => exact ⟨0, Nat.zero_le _, Nat.le_refl _, rfl, ⟨fun j hj => absurd hj (Nat.not_lt_zero j)⟩, ⟨Below.refl _ _⟩⟩
    case round =>
      obtain ⟨k, hk', hg, rfl, HD, HB⟩ := hrel
      by_cases hlt : k < n
      · obtain ⟨b, o, x, xcs, rfl, hS, hb, hx, ⟨rfl, hxs⟩, hcx⟩ := HL.o.at1 k (by rw [HM.o]; exact hlt)
        obtain ⟨b', o', y, ycs, rfl, hS', hb', hy, ⟨rfl, hys⟩, hcy⟩ := HL'.o.at1 k (by rw [← HN.o]; exact hlt)
        have c0 := (hcx.below HB.o).one
        have c1 := (hcy.below HB.o).one
        have HX := K.mk hx
        have HY := K.mk hy
        clear hx hy hcx hcy
        by_cases hxy : x = y
        · have HXY := K.mk hxy
          have q1 : (x.toList == y.toList) = true := by rw [hxy]; simp
          have q2 : (x.toList != y.toList) = false := by rw [hxy]; simp
          clear hxy
          go_wp2_with fail
          go_quiet (fail)
          go_wp2_with fail
          go_roundg (n - (k + 1))
          case measure => omega
          case rel => exact ⟨k + 1, by omega, Nat.le_refl _, by go_num, ⟨fun j hj => by
            rcases Nat.lt_succ_iff_lt_or_eq.1 hj with hj | rfl
            · exact HD.o j hj
            · rw [HX.o, HY.o, HXY.o]⟩, ⟨below_drewN HB.o _⟩⟩
        · have q1 := toList_ne hxy
          have q2 : (x.toList != y.toList) = true := by unfold bne; rw [q1]; rfl
          have hd : namesEq l l' = false := by
            rw [HEQ.o]
            exact decide_eq_false (list_diff k (by rw [HX.o, HY.o]; simpa using hxy))
          have HDD := K.mk hd
          clear hxy hd
          go_wp2_with fail
          go_quiet (fail)
          go_wp2_with fail
          go_ret
          exact ⟨ret_bool HDD.o.symm, below_drewN HB.o _⟩
      · have hkk : k = n := by omega
        subst hkk
        have hd : namesEq l l' = true := by
          rw [HEQ.o]
          exact decide_eq_true (list_alike (HM.o.trans HN.o) (fun j hj => HD.o j (by rw [← HM.o]; exact hj)))
        have HDD := K.mk hd
        clear hd
        go_wp2_with fail
        go_ret
        exact ⟨ret_bool HDD.o.symm, HB.o⟩
  · have q1 : ((l.length : Int) != (l'.length : Int)) = true := bne_tt (by omega)
    have q2 : (l.length != l'.length) = true := by simp [hn]
    have hd : namesEq l l' = false := by rw [HEQ.o]; exact decide_eq_false (by rintro rfl; exact hn rfl)
    have HDD := K.mk hd
    clear hd hn
    go_enter Tryd.func49, Tryd.ntmps49
    go_wp2_with fail
    go_ret
    exact ⟨ret_bool HDD.o.symm, Below.refl _ _⟩
end Go.Proofs.YtgcbkecpplhknaaDoor
