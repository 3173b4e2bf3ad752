/- Walks: bytes compared, Within of the program and of the reference. -/
import Derived.Test.YtgcbkecpplhknaaDoorBytesW
import Derived.Test.YtgcbkecpplhknaaDoorBw


import Derived.WalkKit
import Derived.Deep.QuietTactic
import Derived.BigQuiet
import Derived.Outline
import Derived.Deep.DeepMust
import Derived.Deep.CutBlock
import Derived.Deep.DeepCutAuto
import Derived.Deep.RegionWith
import Derived.WalkSpells
import Derived.WalkLawsBesides
import Derived.Test.YtgcbkecpplhknaaDoorMu
import Derived.Test.YtgcbkecpplhknaaDoorProg
set_option linter.unusedVariables false
set_option linter.unusedSimpArgs false
namespace Go.Proofs.YtgcbkecpplhknaaDoor
open Go.RowKit Go.Mu

set_option maxHeartbeats 1000000 in
theorem bytesCompare_calls (l l' : List UInt8) (A A' : Option Addr) (c c' : Nat) (S S' : Blocks) (w : World) (h : SliceR (rByte.R w S) 1 w S l (.slice A l.length c)) (h' : SliceR (rByte.R w S') 1 w S' l' (.slice A' l'.length c')) :
    Calls Tryd.prog 60 #[.slice A l.length c, .slice A' l'.length c'] w fun e w' => e = .returned (.int .i64 (Lib.compareBytes l l')) ∧ w' = w := by
  have hcall : (callFunc 94 #[.slice A l.length c, .slice A' l'.length c']).run Tryd.prog w = .ok (.value (.int .i64 (Lib.compareBytes l l'))) w := by
    rw [run_callFunc_extern Tryd.func94 (by kernel_rfl) (by kernel_rfl) (by kernel_rfl) (e := Extern.BytealgCompare.compare) (by kernel_rfl), run_compare Tryd.prog w S S' l l' A A' c c' h h']
    rfl
  clear h h'
  go_enter Tryd.func60, Tryd.ntmps60
  go_wp2_with fail
  go_ret
  exact ⟨rfl, rfl⟩

set_option maxHeartbeats 4000000 in
theorem Less_calls (l l' : List UInt8) (A A' : Option Addr) (c c' : Nat) (S S' : Blocks) (w : World) (h : SliceR (rByte.R w S) 1 w S l (.slice A l.length c)) (h' : SliceR (rByte.R w S') 1 w S' l' (.slice A' l'.length c')) :
    Calls Tryd.prog 32 #[.slice A l.length c, .slice A' l'.length c'] w fun e w' => e = .returned (.bool (lessL l l')) ∧ Below w.heap.size w w' := by
  have hlen := h.len_le
  have hlen' := h'.len_le
  have HL := K.mk h
  have HL' := K.mk h'
  clear h h'
  generalize hn : l.length = n at *
  generalize hm : l'.length = m at *
  have HN := K.mk hn
  have HM := K.mk hm
  clear hn hm
  go_enter Tryd.func32, Tryd.ntmps32
  go_wp2_with fail
  go_loopg [5] n (fun g s wr => ∃ k : Nat, k ≤ n ∧ k ≤ m ∧ n - k ≤ g ∧ s = .int .i64 k ∧ K (∀ j, j < k → l[j]? = l'[j]?) ∧ K (Below w.heap.size w wr))
  case atStart => exact ⟨0, Nat.zero_le _, Nat.zero_le _, Nat.le_refl _, rfl, ⟨fun j hj => absurd hj (Nat.not_lt_zero j)⟩, ⟨Below.refl _ _⟩⟩
  case round =>
    obtain ⟨k, hk1, hk2, hg, rfl, HD, HB⟩ := hrel
    by_cases hlt : k < n
    · have z1 : (k : Int) < (n : Int) := by omega
      by_cases hlt2 : k < m
      · have z2 : (k : Int) < (m : Int) := by omega
        obtain ⟨b, o, x, xcs, rfl, hS, hb, hx, rfl, hcx⟩ := HL.o.at1 k (by rw [HN.o]; exact hlt)
        obtain ⟨b', o', y, ycs, rfl, hS', hb', hy, rfl, hcy⟩ := HL'.o.at1 k (by rw [HM.o]; exact hlt2)
        have c0 := (hcx.below HB.o).one
        have c1 := (hcy.below HB.o).one
        have HX := K.mk hx
        have HY := K.mk hy
        clear hx hy hcx hcy
        by_cases hxy : x = y
        · have HXY := K.mk hxy
          have q1 : ((x.toNat : Int) == (y.toNat : Int)) = true := by rw [hxy]; simp
          have q2 : ((x.toNat : Int) != (y.toNat : Int)) = false := by rw [hxy]; simp
          have q3 : (x.toNat == y.toNat) = true := by rw [hxy]; simp
          have q4 : (x.toNat != y.toNat) = false := by rw [hxy]; simp
          clear hxy
          go_wp2_with fail
          go_quiet (fail)
          go_wp2_with fail
          go_roundg (n - (k + 1))
          case measure => omega
          case rel => exact ⟨k + 1, by omega, by omega, Nat.le_refl _, by go_num, ⟨fun j hj => by
            rcases Nat.lt_succ_iff_lt_or_eq.1 hj with hj | rfl
            · exact HD.o j hj
            · rw [HX.o, HY.o, HXY.o]⟩, ⟨Go.Mu.below_drewN HB.o _⟩⟩
        · have hne : x.toNat ≠ y.toNat := fun h => hxy (UInt8.toNat_inj.1 h)
          have q1 : ((x.toNat : Int) == (y.toNat : Int)) = false := beq_ff (by omega)
          have q2 : ((x.toNat : Int) != (y.toNat : Int)) = true := bne_tt (by omega)
          have q3 : (x.toNat == y.toNat) = false := by simpa using hne
          have q4 : (x.toNat != y.toNat) = true := by simpa using hne
          have HQ := K.mk (less_at HD.o HX.o HY.o hxy)
          clear hxy hne
          go_wp2_with fail
          go_quiet (fail)
          go_wp2_with fail
          go_quiet (fail)
          go_wp2_with fail
          go_ret
          exact ⟨ret_bool (by rw [HQ.o]; try simp), Go.Mu.below_drewN (Go.Mu.below_drewN HB.o _) _⟩
      · have z2 : ¬ (k : Int) < (m : Int) := by omega
        have HQ := K.mk (less_end HD.o (by rw [HN.o]; exact hk1) (by rw [HM.o]; exact hk2) (.inr (by rw [HM.o]; omega)))
        rw [HN.o, HM.o] at HQ
        go_wp2_with fail
        go_ret
        exact ⟨ret_bool (by rw [HQ.o]; try simp), HB.o⟩
    · have z1 : ¬ (k : Int) < (n : Int) := by omega
      have HQ := K.mk (less_end HD.o (by rw [HN.o]; exact hk1) (by rw [HM.o]; exact hk2) (.inl (by rw [HN.o]; omega)))
      rw [HN.o, HM.o] at HQ
      go_wp2_with fail
      go_ret
      exact ⟨ret_bool (by rw [HQ.o]; try simp), HB.o⟩

/-- How Within is answered. -/
theorem within_cases (p : PL) (k : List UInt8) :
    ((p.index == -1) = true ∧ withinS p k = true) ∨ ((p.index == -1) = false ∧ lessL k p.fr = true ∧ Lib.compareBytes k p.fr < 0 ∧ withinS p k = false) ∨
    ((p.index == -1) = false ∧ lessL k p.fr = false ∧ ¬ Lib.compareBytes k p.fr < 0 ∧ withinS p k = lessL k p.to) := by
  unfold withinS
  by_cases h1 : p.index = -1
  · left; exact ⟨beq_tt h1, by simp [h1]⟩
  · cases h2 : lessL k p.fr
    · right; right; refine ⟨beq_ff h1, rfl, ?_, by simp [h1]⟩
      unfold lessL at h2; simpa using h2
    · right; left; refine ⟨beq_ff h1, rfl, ?_, by simp [h1]⟩
      unfold lessL at h2; simpa using h2

set_option maxHeartbeats 4000000 in
theorem Within_calls (p : PL) (k : List UInt8) (cs : List Value) (A : Option Addr) (c : Nat) (S S' : Blocks) (w : World) (h : rPL.R w S p cs) (h' : SliceR (rByte.R w S') 1 w S' k (.slice A k.length c)) :
    Calls Tryd.prog 34 #[.agg cs.toArray, .slice A k.length c] w fun e w' => e = .returned (.bool (withinS p k)) ∧ Below w.heap.size w w' := by
  obtain ⟨A1, c1, A2, c2, rfl, hf, ht, hi⟩ := rPL_open h
  have H1 := K.mk (fun W (hW : Below w.heap.size w W) => bytesCompare_calls k p.fr A A1 c c1 S' S W (h'.imp (fun b hs hlt => ⟨hW.block b hlt, hs⟩) (fun x _ cs hr => hr)) (hf.imp (fun b hs hlt => ⟨hW.block b hlt, hs⟩) (fun x _ cs hr => hr)))
  have H2 := K.mk (fun W (hW : Below w.heap.size w W) => bytesCompare_calls k p.to A A2 c c2 S' S W (h'.imp (fun b hs hlt => ⟨hW.block b hlt, hs⟩) (fun x _ cs hr => hr)) (ht.imp (fun b hs hlt => ⟨hW.block b hlt, hs⟩) (fun x _ cs hr => hr)))
  have hc := within_cases p k
  have HLT := K.mk (show lessL k p.to = decide (Lib.compareBytes k p.to < 0) from rfl)
  clear hf ht h h'
  generalize Lib.compareBytes k p.fr = q1 at *
  generalize Lib.compareBytes k p.to = q2 at *
  rcases hc with ⟨e1, hq⟩ | ⟨e1, e2, e3, hq⟩ | ⟨e1, e2, e3, hq⟩
  · have HQ := K.mk hq
    clear hq
    go_enter Tryd.func34, Tryd.ntmps34
    go_wp2_with fail
    go_ret
    exact ⟨ret_bool HQ.o.symm, below_a1 _ _⟩
  · have HQ := K.mk hq
    clear hq
    have e4 : ¬ (0 : Int) ≤ q1 := by omega
    go_enter Tryd.func34, Tryd.ntmps34
    go_wp2_with (go_at_call 60; (with_reducible refine (H1.o _ (below_a1 _ _)).mono ?_); rintro e w1 ⟨rfl, rfl⟩)
    go_ret
    exact ⟨ret_bool HQ.o.symm, below_a1 _ _⟩
  · have HQ := K.mk hq
    clear hq
    have e4 : (0 : Int) ≤ q1 := by omega
    by_cases e5 : q2 < 0
    all_goals
      go_enter Tryd.func34, Tryd.ntmps34
      go_wp2_with (first
        | (go_at_call 60; (with_reducible refine (H1.o _ (below_a1 _ _)).mono ?_); clear H1; rintro e w1 ⟨rfl, rfl⟩)
        | (go_at_call 60; (with_reducible refine (H2.o _ (below_a1 _ _)).mono ?_); rintro e w1 ⟨rfl, rfl⟩))
      go_ret
      exact ⟨ret_bool (by rw [HQ.o, HLT.o]; try simp [e5]), below_a1 _ _⟩

set_option maxHeartbeats 4000000 in
theorem refWithin_calls (p : PL) (k : List UInt8) (cs : List Value) (A : Option Addr) (c : Nat) (S S' : Blocks) (w : World) (h : rPL.R w S p cs) (h' : SliceR (rByte.R w S') 1 w S' k (.slice A k.length c)) :
    Calls Tryd.prog 35 #[.agg cs.toArray, .slice A k.length c] w fun e w' => e = .returned (.bool (withinS p k)) ∧ Below w.heap.size w w' := by
  obtain ⟨A1, c1, A2, c2, rfl, hf, ht, hi⟩ := rPL_open h
  have H1 := K.mk (fun W (hW : Below w.heap.size w W) => Less_calls k p.fr A A1 c c1 S' S W (h'.imp (fun b hs hlt => ⟨hW.block b hlt, hs⟩) (fun x _ cs hr => hr)) (hf.imp (fun b hs hlt => ⟨hW.block b hlt, hs⟩) (fun x _ cs hr => hr)))
  have H2 := K.mk (fun W (hW : Below w.heap.size w W) => Less_calls k p.to A A2 c c2 S' S W (h'.imp (fun b hs hlt => ⟨hW.block b hlt, hs⟩) (fun x _ cs hr => hr)) (ht.imp (fun b hs hlt => ⟨hW.block b hlt, hs⟩) (fun x _ cs hr => hr)))
  have hc := within_cases p k
  clear hf ht h h'
  generalize lessL k p.fr = q1 at *
  generalize lessL k p.to = q2 at *
  rcases hc with ⟨e1, hq⟩ | ⟨e1, rfl, e3, hq⟩ | ⟨e1, rfl, e3, hq⟩
  · have HQ := K.mk hq
    clear hq
    go_enter Tryd.func35, Tryd.ntmps35
    go_wp2_with fail
    go_ret
    exact ⟨ret_bool HQ.o.symm, below_a1 _ _⟩
  · have HQ := K.mk hq
    clear hq
    go_enter Tryd.func35, Tryd.ntmps35
    go_wp2_with (go_at_call 32; (with_reducible refine (H1.o _ (below_a1 _ _)).mono ?_); rintro e w1 ⟨rfl, hb1⟩)
    go_ret
    exact ⟨ret_bool HQ.o.symm, below2 (below_a1 _ _) hb1⟩
  · have HQ := K.mk hq
    clear hq
    go_enter Tryd.func35, Tryd.ntmps35
    go_wp2_with (first
      | (go_at_call 32; (with_reducible refine (H1.o _ (below_a1 _ _)).mono ?_); clear H1; rintro e w1 ⟨rfl, hb1⟩; have HV := K.mk ((Blk.new _ _ _).below hb1 (by simp)); have v2 := HV.o.cell 2 rfl; have HB1 := K.mk (below2 (below_a1 _ _) hb1); clear hb1)
      | (go_at_call 32; (with_reducible refine (H2.o _ HB1.o).mono ?_); rintro e w2 ⟨rfl, hb2⟩))
    go_ret
    exact ⟨ret_bool HQ.o.symm, below2 HB1.o hb2⟩
end Go.Proofs.YtgcbkecpplhknaaDoor
