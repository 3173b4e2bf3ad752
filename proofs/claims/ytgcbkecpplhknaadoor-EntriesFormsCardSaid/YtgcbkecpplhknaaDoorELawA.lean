/- Walks: the law EntriesForms. -/
import Derived.Test.YtgcbkecpplhknaaDoorEPlainW


import Derived.WalkKit
import Derived.Deep.QuietTactic
import Derived.BigQuiet
import Derived.Outline
import Derived.Deep.DeepMust
import Derived.Deep.CutBlock
import Derived.Deep.DeepCutAuto
import Derived.Deep.RegionWith
import Derived.WalkSpells
import Derived.WalkLawsBesides
import Derived.Test.YtgcbkecpplhknaaDoorMu
import Derived.Test.YtgcbkecpplhknaaDoorProg
set_option linter.unusedVariables false
set_option linter.unusedSimpArgs false
namespace Go.Proofs.YtgcbkecpplhknaaDoor
open Go.RowKit Go.Mu
attribute [local go_sem ↓] Go.wp_at_zero Go.wp_at_succ

set_option maxRecDepth 100000 in
set_option maxHeartbeats 8000000 in
theorem EntriesForms_calls (x : IX) (s : ByteArray) (hs : s.size ≤ strMax) (cs : List Value) (S : Blocks) (w : World) (h : rIX.R w S x cs) (hT : Tabs w) :
    Calls Tryd.prog 3 #[.agg cs.toArray, .string s] w fun e w' => e = .returned (.bool true) ∧ Below w.heap.size w w' := by
  have hs' : s.size ≤ 281474976710656 := hs
  have HW := K.mk (fun w' (hb : Below w.heap.size w w') => awake17_calls w' (hT.below hb))
  have HE := K.mk (fun w' (hb : Below w.heap.size w w') => few17_calls x cs S w' (rIX.below h hb))
  have HC := K.mk (fun w' (hb : Below w.heap.size w w') => Formed_calls x cs S w' (rIX.below h hb) (hT.below hb))
  have HP := K.mk (fun (h10 : x.fields.length ≤ 10) w' (hb : Below w.heap.size w w') => plain17_calls x cs S w' (rIX.below h hb) h10)
  have HR := K.mk (fun cs' w' (hb : Below w.heap.size w w') (hR : rIX.R w' (fun _ => True) x cs') => refFormed_calls x cs' _ w' hR (hT.below hb))
  have HN := K.mk (fun W => Name_calls s W)
  have HM := K.mk (fun W => refName_calls s hs W)
  obtain ⟨A, c, rfl, hf, hns⟩ := rIX_open h
  clear hf h hT hs
  cases hq : fewX x
  · rw [hq] at HE
    clear hq
    go_enter Tryd.func3, Tryd.ntmps3
    go_wp2_with (first
      | (go_at_call 10; refine (HW.o _ (below_a1 _ _)).mono ?_; rintro e w1 ⟨rfl, hb1⟩; have HV := K.mk ((Blk.new _ _ _).below hb1 (by simp)); obtain ⟨v0, v1, v2⟩ := HV.o.three; have HB := K.mk (below2 (below_a1 _ _) hb1); clear hb1)
      | (go_at_call 11; go_must (refine (HE.o _ HB.o).mono ?_); rintro e w2 ⟨rfl, hb2⟩; have HB2 := K.mk (below2 HB.o hb2); clear hb2)
      | (go_at_call 10; go_must (refine (HW.o _ HB2.o).mono ?_); rintro e w3 ⟨rfl, hb3⟩))
    go_ret
    exact ⟨rfl, below2 HB2.o hb3⟩
  rw [hq] at HE
  have h10 : x.fields.length ≤ 10 := by unfold fewX at hq; simp at hq; exact hq.1.1
  have HPP := K.mk (HP.o h10)
  clear hq h10 HP
  by_cases h1 : (1000 : Int) < (s.size : Int)
  · go_enter Tryd.func3, Tryd.ntmps3
    go_wp2_with (first
      | (go_at_call 10; refine (HW.o _ (below_a1 _ _)).mono ?_; rintro e w1 ⟨rfl, hb1⟩; have HV := K.mk ((Blk.new _ _ _).below hb1 (by simp)); obtain ⟨v0, v1, v2⟩ := HV.o.three; have HB := K.mk (below2 (below_a1 _ _) hb1); clear hb1)
      | (go_at_call 11; go_must (refine (HE.o _ HB.o).mono ?_); rintro e w2 ⟨rfl, hb2⟩; have HB2 := K.mk (below2 HB.o hb2); clear hb2)
      | (go_at_call 10; go_must (refine (HW.o _ HB2.o).mono ?_); rintro e w3 ⟨rfl, hb3⟩))
    go_ret
    exact ⟨rfl, below2 HB2.o hb3⟩
  · generalize formX x = q at *
    generalize nameS s = q2 at *
    go_enter Tryd.func3, Tryd.ntmps3
    go_wp2_with (first
      | (go_at_call 10; refine (HW.o _ (below_a1 _ _)).mono ?_; rintro e w1 ⟨rfl, hb1⟩; have HV := K.mk ((Blk.new _ _ _).below hb1 (by simp)); obtain ⟨v0, v1, v2⟩ := HV.o.three; have HB := K.mk (below2 (below_a1 _ _) hb1); clear hb1)
      | (go_at_call 11; go_must (refine (HE.o _ HB.o).mono ?_); rintro e w2 ⟨rfl, hb2⟩; have HV2 := K.mk (HV.o.below hb2 HV.o.lt); have HB2 := K.mk (below2 HB.o hb2); clear hb2))
    clear v0 v1 v2 HW HE
    have g0 : ∀ W, Below w2.heap.size w2 W → W.cell? ⟨w.heap.size, 0, none⟩ = some (.string x.name) := fun W hW => (HV2.o.below hW HV2.o.lt).cell 0 rfl
    have g1 : ∀ W, Below w2.heap.size w2 W → W.cell? ⟨w.heap.size, 1, none⟩ = some (.slice A x.fields.length c) := fun W hW => (HV2.o.below hW HV2.o.lt).cell 1 rfl
    have g2 : ∀ W, Below w2.heap.size w2 W → W.cell? ⟨w.heap.size, 2, none⟩ = some (.bool x.unique) := fun W hW => (HV2.o.below hW HV2.o.lt).cell 2 rfl
    go_region_held3 (fun w' => Below w2.heap.size w2 w') (first | assumption | exact Below.drew (Below.refl _ _) | exact below2 (by assumption) (by assumption))
      (first
        | (go_at_call 12; refine (HC.o _ (below2 HB2.o (by assumption))).mono ?_; rintro e w5 ⟨rfl, hb5⟩)
        | (go_at_call 14; refine (HPP.o _ (below2 HB2.o (by assumption))).mono ?_; rintro e w6 ⟨cs', rfl, hR6, hb6⟩; have HR6 := K.mk hR6; clear hR6)
        | (go_at_call 13; refine (HR.o cs' _ (below2 HB2.o (by assumption)) (by first | exact HR6.o | exact rIX.below HR6.o (by assumption))).mono ?_; rintro e w7 ⟨rfl, hb7⟩)
        | (go_at_call 15; refine (HN.o _).mono ?_; rintro e w8 ⟨rfl, hb8⟩)
        | (go_at_call 16; refine (HM.o _).mono ?_; rintro e w9 ⟨rfl, rfl⟩))
    all_goals
      go_wp2_with fail
      go_ret
      exact ⟨ret_bool (by simp), below2 HB2.o (by assumption)⟩
end Go.Proofs.YtgcbkecpplhknaaDoor
