/- Walks: a plan for the empty filter and no index; the law PlanWithin. -/
import Derived.Test.YtgcbkecpplhknaaDoorPWithin
import Derived.Test.YtgcbkecpplhknaaDoorJFormC
import Derived.Deep.RegionHeld3
import Derived.Deep.DrawnRows


import Derived.WalkKit
import Derived.Deep.QuietTactic
import Derived.BigQuiet
import Derived.Outline
import Derived.Deep.DeepMust
import Derived.Deep.CutBlock
import Derived.Deep.DeepCutAuto
import Derived.Deep.RegionWith
import Derived.WalkSpells
import Derived.WalkLawsBesides
import Derived.Test.YtgcbkecpplhknaaDoorMu
import Derived.Test.YtgcbkecpplhknaaDoorProg
set_option linter.unusedVariables false
set_option linter.unusedSimpArgs false
namespace Go.Proofs.YtgcbkecpplhknaaDoor
open Go.RowKit Go.Mu
attribute [local go_sem ↓] Go.wp_at_zero Go.wp_at_succ

/-- The empty filter. -/
def f0 : JV := ⟨6, 0, ByteArray.empty, [], []⟩
theorem form_f0 : formS 6 f0 = true := by kernel_rfl
theorem rv_f0 (w : World) (S : Blocks) : RV w S f0 [.int .i64 6, .int .i64 0, .string ByteArray.empty, .slice none 0 0, .slice none 0 0] :=
  RV.close (v := f0) ⟨none, 0, rfl, Nat.le_refl _, capOk_nil, fun h => absurd rfl h⟩ ⟨none, 0, rfl, Nat.le_refl _, capOk_nil, fun h => absurd rfl h⟩ ⟨by decide, by decide⟩ ⟨by decide, by decide⟩ (by decide)

set_option maxHeartbeats 2000000 in
theorem clauses0_calls (w : World) :
    Calls Tryd.prog 95 #[.agg #[.int .i64 6, .int .i64 0, .string ByteArray.empty, .slice none 0 0, .slice none 0 0]] w fun e w' => e = .returned (.int .i64 0) ∧ Below w.heap.size w w' := by
  go_enter Tryd.func95, Tryd.ntmps95
  go_wp2_with fail
  go_loopg [3, 13] 0 (fun g s3 s wr => s3 = .int .i64 0 ∧ s = .int .i64 0 ∧ K (Below w.heap.size w wr))
  case atStart => exact ⟨rfl, rfl, ⟨below_a1 _ _⟩⟩
  case round =>
    obtain ⟨rfl, rfl, HB⟩ := hrel
    go_wp2_with fail
    go_ret
    exact ⟨rfl, HB.o⟩

set_option maxHeartbeats 2000000 in
theorem Check0_calls (w : World) (hT : Tabs w) :
    Calls Tryd.prog 62 #[.agg #[.int .i64 6, .int .i64 0, .string ByteArray.empty, .slice none 0 0, .slice none 0 0]] w fun e w' => e = .returned (.int .i64 0) ∧ Below w.heap.size w w' := by
  have hc := fun W (hW : Below w.heap.size w W) => json_Formed_calls f0 _ (fun _ => True) W (rv_f0 W _) (hT.below hW)
  rw [form_f0] at hc
  have HC := K.mk hc
  have HD := K.mk (fun W => clauses0_calls W)
  clear hc hT
  go_enter Tryd.func62, Tryd.ntmps62
  go_wp2_with (first
    | (go_at_call 24; go_must (refine (HC.o _ (below_a1 _ _)).mono ?_); rintro e w1 ⟨rfl, hb1⟩; have HV := K.mk ((Blk.new _ _ _).below hb1 (by simp)); obtain ⟨v0, v1, v2, v3, v4⟩ := HV.o.five; have HB1 := K.mk (below2 (below_a1 _ _) hb1); clear hb1)
    | (go_at_call 95; go_must (refine (HD.o _).mono ?_); rintro e w2 ⟨rfl, hb2⟩))
  go_ret
  exact ⟨rfl, below2 HB1.o hb2⟩

set_option maxHeartbeats 4000000 in
set_option maxRecDepth 100000 in
theorem Make0_calls (w : World) (hT : Tabs w) :
    Calls Tryd.prog 37 #[.agg #[.int .i64 6, .int .i64 0, .string ByteArray.empty, .slice none 0 0, .slice none 0 0], .slice none 0 0] w fun e w' => e = .returned (.tuple #[.agg #[.int .i64 (-1), .slice none 0 0, .slice none 0 0], .int .i64 0]) ∧ Below w.heap.size w w' := by
  have HC := K.mk (fun W (hW : Below w.heap.size w W) => Check0_calls W (hT.below hW))
  clear hT
  go_enter Tryd.func37, Tryd.ntmps37
  go_wp2_with (go_at_call 62; go_must (refine (HC.o _ (below_a2 _ _ _)).mono ?_); rintro e w1 ⟨rfl, hb1⟩; have HV := K.mk ((Blk.new2 _ _ _ _).below hb1 (by simp)); have HB1 := K.mk (below2 (below_a2 _ _ _) hb1); clear hb1)
  go_loopg [22] 0 (fun g s wr => s = .int .i64 0 ∧ K (Below w.heap.size w wr) ∧ K (Blk wr (w.heap.size + 1) 69 [.int .i64 0, .slice none 0 0, .slice none 0 0]) ∧ K (Blk wr w1.heap.size 69 [.int .i64 (-1), .slice none 0 0, .slice none 0 0]))
  case atStart => exact ⟨rfl, ⟨HB1.o.alloc HB1.o.size _⟩, ⟨HV.o.alloc _⟩, ⟨Blk.new _ _ _⟩⟩
  case round =>
    obtain ⟨rfl, HB, HR, HY⟩ := hrel
    obtain ⟨y0, y1, y2⟩ := HY.o.three
    obtain ⟨r0, r1, r2⟩ := HR.o.three
    have f0 := HR.o.frozen 0
    have f1 := HR.o.frozen 1
    have f2 := HR.o.frozen 2
    go_wp2_with fail
    refine bodyPost_ret (v := .tuple #[.agg #[.int .i64 (-1), .slice none 0 0, .slice none 0 0], .int .i64 0]) (by simp [results, Tryd.results37, go_sem, y0, y1, y2, r0, r1, r2, HR.o.lt]) rfl ?_
    exact ⟨rfl, ((HB.o.setCell (p := ⟨w.heap.size + 1, 0, none⟩) (by simp) _).setCell (p := ⟨w.heap.size + 1, 1, none⟩) (by simp) _).setCell (p := ⟨w.heap.size + 1, 2, none⟩) (by simp) _⟩

set_option maxHeartbeats 4000000 in
theorem awake18_calls (w : World) (hT : Tabs w) :
    Calls Tryd.prog 33 #[] w fun e w' => e = .returned (.bool true) ∧ Below w.heap.size w w' := by
  have HC := K.mk (Make0_calls w hT)
  clear hT
  go_enter Tryd.func33, Tryd.ntmps33
  go_wp2_with (go_at_call 37; go_must (refine HC.o.mono ?_); rintro e w1 ⟨rfl, hb1⟩; have HB1 := K.mk hb1; clear hb1)
  go_ret
  exact ⟨rfl, HB1.o.alloc HB1.o.size _⟩

set_option maxRecDepth 100000 in
set_option maxHeartbeats 8000000 in
theorem PlanWithin_calls (p : PL) (k : List UInt8) (cs : List Value) (v : Value) (S S' : Blocks) (w : World) (h : rPL.R w S p cs) (hk : rLB.R w S' k [v]) (hT : Tabs w) :
    Calls Tryd.prog 8 #[.agg cs.toArray, v] w fun e w' => e = .returned (.bool true) ∧ Below w.heap.size w w' := by
  obtain ⟨v', hv', A, c, hv, hr⟩ := hk
  injection hv' with hv' _
  subst hv'
  subst hv
  have h' : SliceR (rByte.R w S') 1 w S' k (.slice A k.length c) := ⟨A, c, rfl, hr⟩
  have HW := K.mk (fun w' (hb : Below w.heap.size w w') => awake18_calls w' (hT.below hb))
  have HC := K.mk (fun W (hW : Below w.heap.size w W) => Within_calls p k cs A c S S' W (rPL.below h hW) (h'.imp (fun b hs hlt => ⟨hW.block b hlt, hs⟩) (fun x _ cs hr => hr)))
  have HR := K.mk (fun W (hW : Below w.heap.size w W) => refWithin_calls p k cs A c S S' W (rPL.below h hW) (h'.imp (fun b hs hlt => ⟨hW.block b hlt, hs⟩) (fun x _ cs hr => hr)))
  obtain ⟨A1, c1, A2, c2, rfl, hf, ht, hi⟩ := rPL_open h
  clear h h' hr hf ht hT
  generalize withinS p k = q at *
  generalize p.fr.length = n1 at *
  generalize p.to.length = n2 at *
  generalize k.length = n3 at *
  by_cases h1 : (1000 : Int) < (n1 : Int)
  · go_enter Tryd.func8, Tryd.ntmps8
    go_wp2_with (first
      | (go_at_call 33; refine (HW.o _ (below_a1 _ _)).mono ?_; rintro e w1 ⟨rfl, hb1⟩; have HV := K.mk ((Blk.new _ _ _).below hb1 (by simp)); obtain ⟨v0, v1, v2⟩ := HV.o.three; have HB := K.mk (below2 (below_a1 _ _) hb1); clear hb1)
      | (go_at_call 33; go_must (refine (HW.o _ HB.o).mono ?_); rintro e w3 ⟨rfl, hb3⟩))
    go_ret
    exact ⟨rfl, below2 HB.o hb3⟩
  by_cases h2 : (1000 : Int) < (n2 : Int)
  · go_enter Tryd.func8, Tryd.ntmps8
    go_wp2_with (first
      | (go_at_call 33; refine (HW.o _ (below_a1 _ _)).mono ?_; rintro e w1 ⟨rfl, hb1⟩; have HV := K.mk ((Blk.new _ _ _).below hb1 (by simp)); obtain ⟨v0, v1, v2⟩ := HV.o.three; have HB := K.mk (below2 (below_a1 _ _) hb1); clear hb1)
      | (go_at_call 33; go_must (refine (HW.o _ HB.o).mono ?_); rintro e w3 ⟨rfl, hb3⟩))
    go_ret
    exact ⟨rfl, below2 HB.o hb3⟩
  by_cases h3 : (1000 : Int) < (n3 : Int)
  · go_enter Tryd.func8, Tryd.ntmps8
    go_wp2_with (first
      | (go_at_call 33; refine (HW.o _ (below_a1 _ _)).mono ?_; rintro e w1 ⟨rfl, hb1⟩; have HV := K.mk ((Blk.new _ _ _).below hb1 (by simp)); obtain ⟨v0, v1, v2⟩ := HV.o.three; have HB := K.mk (below2 (below_a1 _ _) hb1); clear hb1)
      | (go_at_call 33; go_must (refine (HW.o _ HB.o).mono ?_); rintro e w3 ⟨rfl, hb3⟩))
    go_ret
    exact ⟨rfl, below2 HB.o hb3⟩
  go_enter Tryd.func8, Tryd.ntmps8
  go_wp2_with (go_at_call 33; refine (HW.o _ (below_a1 _ _)).mono ?_; rintro e w1 ⟨rfl, hb1⟩; have HV := K.mk ((Blk.new _ _ _).below hb1 (by simp)); obtain ⟨v0, v1, v2⟩ := HV.o.three; have HB := K.mk (below2 (below_a1 _ _) hb1); clear hb1)
  clear v0 v1 v2 HW
  have g0 : ∀ W, Below w1.heap.size w1 W → W.cell? ⟨w.heap.size, 0, none⟩ = some (.int .i64 p.index) := fun W hW => (HV.o.below hW HV.o.lt).cell 0 rfl
  have g1 : ∀ W, Below w1.heap.size w1 W → W.cell? ⟨w.heap.size, 1, none⟩ = some (.slice A1 n1 c1) := fun W hW => (HV.o.below hW HV.o.lt).cell 1 rfl
  have g2 : ∀ W, Below w1.heap.size w1 W → W.cell? ⟨w.heap.size, 2, none⟩ = some (.slice A2 n2 c2) := fun W hW => (HV.o.below hW HV.o.lt).cell 2 rfl
  go_region_held3 (fun w' => Below w1.heap.size w1 w') (first | assumption | exact Below.drew (Below.refl _ _) | exact below2 (by assumption) (by assumption))
    (first
      | (go_at_call 34; refine (HC.o _ (below2 HB.o (by assumption))).mono ?_; rintro e w5 ⟨rfl, hb5⟩)
      | (go_at_call 35; refine (HR.o _ (below2 HB.o (by assumption))).mono ?_; rintro e w7 ⟨rfl, hb7⟩))
  all_goals
    go_wp2_with fail
    go_ret
    exact ⟨ret_bool (by simp), below2 HB.o (by assumption)⟩
end Go.Proofs.YtgcbkecpplhknaaDoor
