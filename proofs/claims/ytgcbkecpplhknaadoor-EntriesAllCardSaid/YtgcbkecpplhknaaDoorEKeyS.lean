/- Walks: two lists of bytes, whether they are the same (the reference). -/
import Derived.Test.YtgcbkecpplhknaaDoorBytesW
import Derived.Test.YtgcbkecpplhknaaDoorBw


import Derived.WalkKit
import Derived.Deep.QuietTactic
import Derived.BigQuiet
import Derived.Outline
import Derived.Deep.DeepMust
import Derived.Deep.CutBlock
import Derived.Deep.DeepCutAuto
import Derived.Deep.RegionWith
import Derived.WalkSpells
import Derived.WalkLawsBesides
import Derived.Test.YtgcbkecpplhknaaDoorMu
import Derived.Test.YtgcbkecpplhknaaDoorProg
set_option linter.unusedVariables false
set_option linter.unusedSimpArgs false
namespace Go.Proofs.YtgcbkecpplhknaaDoor
open Go.RowKit Go.Mu

set_option maxHeartbeats 4000000 in
theorem SameB_calls (l l' : List UInt8) (A A' : Option Addr) (c c' : Nat) (S S' : Blocks) (w : World) (h : SliceR (rByte.R w S) 1 w S l (.slice A l.length c)) (h' : SliceR (rByte.R w S') 1 w S' l' (.slice A' l'.length c')) :
    Calls Tryd.prog 27 #[.slice A l.length c, .slice A' l'.length c'] w fun e w' => e = .returned (.bool (decide (l = l'))) ∧ Below w.heap.size w w' := by
  have hlen := h.len_le
  have hlen' := h'.len_le
  have HL := K.mk h
  have HL' := K.mk h'
  clear h h'
  by_cases hnm : l.length = l'.length
  · rw [← hnm] at HL' hlen' ⊢
    have HM := K.mk hnm
    clear hnm
    generalize hn : l.length = n at *
    have HN := K.mk hn
    clear hn
    go_enter Tryd.func27, Tryd.ntmps27
    go_wp2_with fail
    go_loopg [5] n (fun g s wr => ∃ k : Nat, k ≤ n ∧ n - k ≤ g ∧ s = .int .i64 k ∧ K (∀ j, j < k → l[j]? = l'[j]?) ∧ K (Below w.heap.size w wr))
    case atStart => exact ⟨0, Nat.zero_le _, Nat.le_refl _, rfl, ⟨fun j hj => absurd hj (Nat.not_lt_zero j)⟩, ⟨Below.refl _ _⟩⟩
    case round =>
      obtain ⟨k, hk1, hg, rfl, HD, HB⟩ := hrel
      by_cases hlt : k < n
      · have z1 : (k : Int) < (n : Int) := by omega
        obtain ⟨b, o, x, xcs, rfl, hS, hb, hx, rfl, hcx⟩ := HL.o.at1 k (by rw [HN.o]; exact hlt)
        obtain ⟨b', o', y, ycs, rfl, hS', hb', hy, rfl, hcy⟩ := HL'.o.at1 k (by rw [← HM.o]; exact hlt)
        have c0 := (hcx.below HB.o).one
        have c1 := (hcy.below HB.o).one
        have HX := K.mk hx
        have HY := K.mk hy
        clear hx hy hcx hcy
        by_cases hxy : x = y
        · have HXY := K.mk hxy
          have q1 : ((x.toNat : Int) == (y.toNat : Int)) = true := by rw [hxy]; simp
          have q2 : ((x.toNat : Int) != (y.toNat : Int)) = false := by rw [hxy]; simp
          have q3 : (x.toNat == y.toNat) = true := by rw [hxy]; simp
          have q4 : (x.toNat != y.toNat) = false := by rw [hxy]; simp
          clear hxy
          go_wp2_with fail
          go_quiet (fail)
          go_wp2_with fail
          go_roundg (n - (k + 1))
          case measure => omega
          case rel => exact ⟨k + 1, by omega, Nat.le_refl _, by go_num, ⟨fun j hj => by
            rcases Nat.lt_succ_iff_lt_or_eq.1 hj with hj | rfl
            · exact HD.o j hj
            · rw [HX.o, HY.o, HXY.o]⟩, ⟨Go.Mu.below_drewN HB.o _⟩⟩
        · have hne : x.toNat ≠ y.toNat := fun h => hxy (UInt8.toNat_inj.1 h)
          have q1 : ((x.toNat : Int) == (y.toNat : Int)) = false := beq_ff (by omega)
          have q2 : ((x.toNat : Int) != (y.toNat : Int)) = true := bne_tt (by omega)
          have q3 : (x.toNat == y.toNat) = false := by simpa using hne
          have q4 : (x.toNat != y.toNat) = true := by simpa using hne
          have HQ := K.mk (show decide (l = l') = false from decide_eq_false fun h => by
            have h1 := HX.o
            rw [h, HY.o] at h1
            injection h1 with h1
            exact hxy h1.symm)
          clear hxy hne
          go_wp2_with fail
          go_quiet (fail)
          go_wp2_with fail
          go_ret
          exact ⟨ret_bool (by rw [HQ.o]; try simp), Go.Mu.below_drewN HB.o _⟩
      · have z1 : ¬ (k : Int) < (n : Int) := by omega
        have HQ := K.mk (show decide (l = l') = true from decide_eq_true (List.ext_getElem? fun j => by
          by_cases hj : j < k
          · exact HD.o j hj
          · rw [List.getElem?_eq_none (by rw [HN.o]; omega), List.getElem?_eq_none (by rw [← HM.o]; omega)]))
        go_wp2_with fail
        go_ret
        exact ⟨ret_bool (by rw [HQ.o]; try simp), HB.o⟩
  · have HQ := K.mk (show decide (l = l') = false from decide_eq_false fun h => hnm (by rw [h]))
    have q1 : ((l.length : Int) != (l'.length : Int)) = true := bne_tt (by omega)
    clear hnm
    go_enter Tryd.func27, Tryd.ntmps27
    go_wp2_with fail
    go_ret
    exact ⟨ret_bool (by rw [HQ.o]; try simp), Below.refl _ _⟩
end Go.Proofs.YtgcbkecpplhknaaDoor
