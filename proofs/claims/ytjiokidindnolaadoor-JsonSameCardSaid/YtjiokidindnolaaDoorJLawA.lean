/- Walks: awake, the laws JsonForms and JsonDeep. -/
import Derived.Test.YtjiokidindnolaaDoorJRefC
import Derived.Test.YtjiokidindnolaaDoorJFormC


import Derived.WalkKit
import Derived.Deep.QuietTactic
import Derived.BigQuiet
import Derived.Outline
import Derived.Deep.DeepMust
import Derived.Deep.CutBlock
import Derived.Deep.DeepCutAuto
import Derived.Deep.RegionWith
import Derived.WalkSpells
import Derived.WalkLawsBesides
import Derived.Test.YtjiokidindnolaaDoorMu
import Derived.Test.YtjiokidindnolaaDoorProg
set_option linter.unusedVariables false
set_option linter.unusedSimpArgs false
namespace Go.Proofs.YtjiokidindnolaaDoor
open Go.RowKit Go.Mu

theorem rv_int5 (w : World) (S : Blocks) : RV w S ⟨3, 5, ByteArray.empty, [], []⟩ [.int .i64 3, .int .i64 5, .string ByteArray.empty, .slice none 0 0, .slice none 0 0] :=
  RV.close ⟨none, 0, rfl, Nat.le_refl _, Nat.zero_le _, fun h => absurd rfl h⟩ ⟨none, 0, rfl, Nat.le_refl _, Nat.zero_le _, fun h => absurd rfl h⟩ ⟨by decide, by decide⟩ ⟨by decide, by decide⟩ (by decide)
theorem form_int5 : formS 6 ⟨3, 5, ByteArray.empty, [], []⟩ = true := by kernel_rfl

theorem awake_calls (w : World) (hT : Tabs w) :
    Calls Tryd.prog 7 #[] w fun e w' => e = .returned (.bool true) ∧ Below w.heap.size w w' := by
  have hc := json_Formed_calls _ _ _ w (rv_int5 w (fun _ => True)) hT
  rw [form_int5] at hc
  have HC := K.mk hc
  clear hc
  go_enter Tryd.func7, Tryd.ntmps7
  go_wp2_with (go_at_call 9; go_must (refine HC.o.mono ?_); rintro e w1 ⟨rfl, hb1⟩)
  go_ret
  exact ⟨rfl, hb1⟩

set_option maxHeartbeats 4000000 in
theorem JsonForms_calls (v : JV) (cs : List Value) (S : Blocks) (w : World) (h : RV w S v cs) (hT : Tabs w) :
    Calls Tryd.prog 3 #[.agg cs.toArray] w fun e w' => e = .returned (.bool true) ∧ Below w.heap.size w w' := by
  have HC := K.mk (fun w' (hb : Below w.heap.size w w') => json_Formed_calls v cs S w' (rV.below h hb) (hT.below hb))
  have HC2 := K.mk (fun w' (hb : Below w.heap.size w w') => ref_Formed_calls v cs S w' (rV.below h hb))
  have HW := K.mk (fun w' (hb : Below w.heap.size w w') => awake_calls w' (hT.below hb))
  have HE := K.mk (fun w' (hb : Below w.heap.size w w') => Few_calls v cs S w' (rV.below h hb))
  obtain ⟨An, cn, Ai, ci, rfl, hnm, hit, hk, hn, ht⟩ := h.wide
  have hilen := hit.len_le
  have hnlen := hnm.len_le
  clear hnm hit hT
  generalize formS 6 v = q at *
  cases hq : fewS v
  all_goals
    simp only [hq] at HE
    clear hq
    go_enter Tryd.func3, Tryd.ntmps3
    go_wp2_with (first
      | (go_at_call 7; refine (HW.o _ (below_a1 _ _)).mono ?_; rintro e w1 ⟨rfl, hb1⟩; have HV := K.mk ((Blk.new _ _ _).below hb1 (by simp)); obtain ⟨v0, v1, v2, v3, v4⟩ := HV.o.five; have HB := K.mk (below2 (below_a1 _ _) hb1); clear hb1)
      | (go_at_call 8; go_must (refine (HE.o _ HB.o).mono ?_); rintro e w2 ⟨rfl, hb2⟩; have HV2 := K.mk (HV.o.below hb2 HV.o.lt); obtain ⟨v0, v1, v2, v3, v4⟩ := HV2.o.five; have HB2 := K.mk (below2 HB.o hb2); clear hb2)
      | (go_at_call 7; go_must (refine (HW.o _ HB2.o).mono ?_); rintro e w3 ⟨rfl, hb3⟩; have HB3 := K.mk (below2 HB2.o hb3)))
  · go_ret
    exact ⟨rfl, HB3.o⟩
  · have g0 : ∀ p : BW w2, p.wd.cell? ⟨w.heap.size, 0, none⟩ = some (.int .i64 v.kind) := fun p => (HV2.o.below p.hb HV2.o.lt).cell 0 rfl
    have g1 : ∀ p : BW w2, p.wd.cell? ⟨w.heap.size, 1, none⟩ = some (.int .i64 v.num) := fun p => (HV2.o.below p.hb HV2.o.lt).cell 1 rfl
    have g2 : ∀ p : BW w2, p.wd.cell? ⟨w.heap.size, 2, none⟩ = some (.string v.text) := fun p => (HV2.o.below p.hb HV2.o.lt).cell 2 rfl
    have g3 : ∀ p : BW w2, p.wd.cell? ⟨w.heap.size, 3, none⟩ = some (.slice An v.names.length cn) := fun p => (HV2.o.below p.hb HV2.o.lt).cell 3 rfl
    have g4 : ∀ p : BW w2, p.wd.cell? ⟨w.heap.size, 4, none⟩ = some (.slice Ai v.items.length ci) := fun p => (HV2.o.below p.hb HV2.o.lt).cell 4 rfl
    refine wp_region_below (by kernel_rfl) (by kernel_rfl) ?_
    repeat (go_big_quiet_step (first | (go_at_call 9; exact bw_call _ (fun W hW => HC.o W (below2 HB2.o hW))) | (go_at_call 10; exact bw_call _ (fun W hW => HC2.o W (below2 HB2.o hW)))))
    refine wpQuiet_nil ?_
    intro _ hw'
    obtain ⟨⟨wq, hbq⟩, hw''⟩ := hw'
    subst hw''
    go_wp2_with fail
    go_ret
    exact ⟨ret_bool (by simp), below2 HB2.o hbq⟩
end Go.Proofs.YtjiokidindnolaaDoor
