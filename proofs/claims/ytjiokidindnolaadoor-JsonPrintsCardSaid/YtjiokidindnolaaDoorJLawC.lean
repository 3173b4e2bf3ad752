/- Walks: the law JsonPrints. -/
import Derived.Test.YtjiokidindnolaaDoorJPrnP
import Derived.Test.YtjiokidindnolaaDoorJLawA


import Derived.WalkKit
import Derived.Deep.QuietTactic
import Derived.BigQuiet
import Derived.Outline
import Derived.Deep.DeepMust
import Derived.Deep.CutBlock
import Derived.Deep.DeepCutAuto
import Derived.Deep.RegionWith
import Derived.WalkSpells
import Derived.WalkLawsBesides
import Derived.Test.YtjiokidindnolaaDoorMu
import Derived.Test.YtjiokidindnolaaDoorProg
set_option linter.unusedVariables false
set_option linter.unusedSimpArgs false
namespace Go.Proofs.YtjiokidindnolaaDoor
open Go.RowKit Go.Mu

set_option maxHeartbeats 4000000 in
theorem JsonPrints_calls (v : JV) (cs : List Value) (S : Blocks) (w : World) (h : RV w S v cs) (hT : Tabs w) (hT2 : PT w) (hg : 2 < w.heap.size) :
    Calls Tryd.prog 5 #[.agg cs.toArray] w fun e w' => e = .returned (.bool true) ∧ Below w.heap.size w w' := by
  have HC := K.mk (fun w' (hb : Below w.heap.size w w') => json_Print_calls v cs S w' (rV.below h hb) (hT.below hb) (hT2.below hb hg) (Nat.lt_of_lt_of_le hg hb.size))
  have HC2 := K.mk (fun w' (hb : Below w.heap.size w w') => ref_Print_calls v cs S w' (rV.below h hb))
  have HW := K.mk (fun w' (hb : Below w.heap.size w w') => awake_calls w' (hT.below hb))
  have HE := K.mk (fun w' (hb : Below w.heap.size w w') => Few_calls v cs S w' (rV.below h hb))
  obtain ⟨An, cn, Ai, ci, rfl, hnm, hit, hk, hn, ht⟩ := h.wide
  have hilen := hit.len_le
  have hnlen := hnm.len_le
  clear hnm hit hT hT2
  generalize (printS v).1 = q1 at *
  generalize (printS v).2 = q2 at *
  cases hq : fewS v
  all_goals
    simp only [hq] at HE
    clear hq
    go_enter Tryd.func5, Tryd.ntmps5
    go_wp2_with (first
      | (go_at_call 7; refine (HW.o _ (below_a1 _ _)).mono ?_; rintro e w1 ⟨rfl, hb1⟩; have HV := K.mk ((Blk.new _ _ _).below hb1 (by simp)); obtain ⟨v0, v1, v2, v3, v4⟩ := HV.o.five; have HB := K.mk (below2 (below_a1 _ _) hb1); clear hb1)
      | (go_at_call 8; go_must (refine (HE.o _ HB.o).mono ?_); rintro e w2 ⟨rfl, hb2⟩; have HV2 := K.mk (HV.o.below hb2 HV.o.lt); obtain ⟨v0, v1, v2, v3, v4⟩ := HV2.o.five; have HB2 := K.mk (below2 HB.o hb2); clear hb2)
      | (go_at_call 13; go_must (refine (HC.o _ HB2.o).mono ?_); rintro e w3 ⟨rfl, hb3⟩; have HV3 := K.mk (HV2.o.below hb3 HV2.o.lt); obtain ⟨v0, v1, v2, v3, v4⟩ := HV3.o.five; have HB3 := K.mk (below2 HB2.o hb3); clear hb3)
      | (go_at_call 14; go_must (refine (HC2.o _ HB3.o).mono ?_); rintro e w4 ⟨rfl, hb4⟩; have HB4 := K.mk (below2 HB3.o hb4); clear hb4)
      | (go_at_call 7; go_must (refine (HW.o _ HB2.o).mono ?_); rintro e w3 ⟨rfl, hb3⟩; have HB4 := K.mk (below2 HB2.o hb3)))
    go_ret
    exact ⟨ret_bool (by simp), HB4.o⟩
end Go.Proofs.YtjiokidindnolaaDoor
