/- Walks: the law JsonSame. -/
import Derived.Test.YtjiokidindnolaaDoorJPrnP
import Derived.Test.YtjiokidindnolaaDoorJLawA
import Derived.Test.YtjiokidindnolaaDoorJSameR
import Derived.Test.YtjiokidindnolaaDoorJSameP


import Derived.WalkKit
import Derived.Deep.QuietTactic
import Derived.BigQuiet
import Derived.Outline
import Derived.Deep.DeepMust
import Derived.Deep.CutBlock
import Derived.Deep.DeepCutAuto
import Derived.Deep.RegionWith
import Derived.WalkSpells
import Derived.WalkLawsBesides
import Derived.Test.YtjiokidindnolaaDoorMu
import Derived.Test.YtjiokidindnolaaDoorProg
set_option linter.unusedVariables false
set_option linter.unusedSimpArgs false
namespace Go.Proofs.YtjiokidindnolaaDoor
open Go.RowKit Go.Mu

theorem printS_cases (a b : JV) : ((printS a).2 = 2) ∨ ((printS a).2 = 0 ∧ (printS b).2 = 2) ∨ ((printS a).2 = 0 ∧ (printS b).2 = 0 ∧ ((printS a).1.toList == (printS b).1.toList) = sameS a b) := by
  cases ha : formS 6 a
  · left; unfold printS; rw [ha]; rfl
  · right
    have e1 : (printS a).2 = 0 := by unfold printS; rw [ha]; rfl
    cases hb : formS 6 b
    · left; exact ⟨e1, by unfold printS; rw [hb]; rfl⟩
    · right
      refine ⟨e1, by unfold printS; rw [hb]; rfl, ?_⟩
      have p1 : (printS a).1 = bs (showS 6 a) := by unfold printS; rw [ha]; rfl
      have p2 : (printS b).1 = bs (showS 6 b) := by unfold printS; rw [hb]; rfl
      rw [p1, p2]
      by_cases h : a = b
      · rw [sameS_true h, h]; simp
      · rw [sameS_false h]
        exact toList_ne fun h2 => h (show_inj ha hb (bs_inj h2))


set_option maxHeartbeats 8000000 in
set_option maxRecDepth 100000 in
theorem JsonSame_calls (a b : JV) (cs cs' : List Value) (S S' : Blocks) (w : World) (h : RV w S a cs) (h' : RV w S' b cs') (hT : Tabs w) (hT2 : PT w) (hg : 2 < w.heap.size) :
    Calls Tryd.prog 6 #[.agg cs.toArray, .agg cs'.toArray] w fun e w' => e = .returned (.bool true) ∧ Below w.heap.size w w' := by
  have HC := K.mk (fun w' (hb : Below w.heap.size w w') => json_Print_calls a cs S w' (rV.below h hb) (hT.below hb) (hT2.below hb hg) (Nat.lt_of_lt_of_le hg hb.size))
  have HD := K.mk (fun w' (hb : Below w.heap.size w w') => json_Print_calls b cs' S' w' (rV.below h' hb) (hT.below hb) (hT2.below hb hg) (Nat.lt_of_lt_of_le hg hb.size))
  have HW := K.mk (fun w' (hb : Below w.heap.size w w') => awake_calls w' (hT.below hb))
  have HE := K.mk (fun w' (hb : Below w.heap.size w w') => Few_calls a cs S w' (rV.below h hb))
  have HF := K.mk (fun w' (hb : Below w.heap.size w w') => Few_calls b cs' S' w' (rV.below h' hb))
  have HJ := K.mk (fun w' (hb : Below w.heap.size w w') => json_Same_calls a b cs cs' S S' w' (rV.below h hb) (rV.below h' hb))
  have HR := K.mk (fun w' (hb : Below w.heap.size w w') => ref_Same_calls a b cs cs' S S' w' (rV.below h hb) (rV.below h' hb))
  have HA := K.mk (fun w' (hb : Below w.heap.size w w') => json_Same_calls a a cs cs S S w' (rV.below h hb) (rV.below h hb))
  rw [sameS_true (rfl : a = a)] at HA
  obtain ⟨An, cn, Ai, ci, rfl, hnm, hit, hk, hn, ht⟩ := h.wide
  obtain ⟨An', cn', Ai', ci', rfl, hnm', hit', hk', hn', ht'⟩ := h'.wide
  have hp := printS_cases a b
  clear hnm hit hT hT2 hnm' hit' h h'
  generalize sameS a b = q at *
  generalize (printS a).1 = s1 at *
  generalize (printS a).2 = e1 at *
  generalize (printS b).1 = s2 at *
  generalize (printS b).2 = e2 at *
  cases hqa : fewS a
  · simp only [hqa] at HE
    clear hqa hp
    go_enter Tryd.func6, Tryd.ntmps6
    go_wp2_with (first
      | (go_at_call 7; refine (HW.o _ (below_a2 _ _ _)).mono ?_; rintro e w1 ⟨rfl, hb1⟩; have HV := K.mk (show Boxes w.heap.size _ _ _ from ⟨(Blk.new1 _ _ _ _).below hb1 (by simp; omega), (Blk.new2 _ _ _ _).below hb1 (by simp)⟩); have HB := K.mk (below2 (below_a2 _ _ _) hb1); obtain ⟨v0, v1, v2, v3, v4⟩ := HV.o.1.five; obtain ⟨u0, u1, u2, u3, u4⟩ := HV.o.2.five; clear hb1)
      | (go_at_call 8; (with_reducible refine (HE.o _ HB.o).mono ?_); rintro e w2 ⟨rfl, hb2⟩; have HB2 := K.mk (below2 HB.o hb2))
      | (go_at_call 7; go_must (refine (HW.o _ HB2.o).mono ?_); rintro e w3 ⟨rfl, hb3⟩; have HB3 := K.mk (below2 HB2.o hb3)))
    go_ret
    exact ⟨rfl, HB3.o⟩
  · simp only [hqa] at HE
    cases hqb : fewS b
    · simp only [hqb] at HF
      clear hqa hqb hp
      go_enter Tryd.func6, Tryd.ntmps6
      go_wp2_with (first
        | (go_at_call 7; refine (HW.o _ (below_a2 _ _ _)).mono ?_; rintro e w1 ⟨rfl, hb1⟩; have HV := K.mk (show Boxes w.heap.size _ _ _ from ⟨(Blk.new1 _ _ _ _).below hb1 (by simp; omega), (Blk.new2 _ _ _ _).below hb1 (by simp)⟩); have HB := K.mk (below2 (below_a2 _ _ _) hb1); obtain ⟨v0, v1, v2, v3, v4⟩ := HV.o.1.five; obtain ⟨u0, u1, u2, u3, u4⟩ := HV.o.2.five; clear hb1)
        | (go_at_call 8; (with_reducible refine (HE.o _ HB.o).mono ?_); rintro e w2 ⟨rfl, hb2⟩; have HV2 := K.mk (HV.o.below hb2); have HB2 := K.mk (below2 HB.o hb2); obtain ⟨v0, v1, v2, v3, v4⟩ := HV2.o.1.five; obtain ⟨u0, u1, u2, u3, u4⟩ := HV2.o.2.five; clear hb2)
        | (go_at_call 8; (with_reducible refine (HF.o _ HB2.o).mono ?_); rintro e w3 ⟨rfl, hb3⟩; have HB3 := K.mk (below2 HB2.o hb3))
        | (go_at_call 7; go_must (refine (HW.o _ HB3.o).mono ?_); rintro e w4 ⟨rfl, hb4⟩; have HB4 := K.mk (below2 HB3.o hb4)))
      go_ret
      exact ⟨rfl, HB4.o⟩
    · simp only [hqb] at HF
      clear hqa hqb
      cases q
      all_goals
        rcases hp with rfl | ⟨rfl, rfl⟩ | ⟨rfl, rfl, hst⟩
        all_goals
          go_enter Tryd.func6, Tryd.ntmps6
          go_wp2_with (first
            | (go_at_call 7; refine (HW.o _ (below_a2 _ _ _)).mono ?_; rintro e w1 ⟨rfl, hb1⟩; have HV := K.mk (show Boxes w.heap.size _ _ _ from ⟨(Blk.new1 _ _ _ _).below hb1 (by simp; omega), (Blk.new2 _ _ _ _).below hb1 (by simp)⟩); have HB := K.mk (below2 (below_a2 _ _ _) hb1); obtain ⟨v0, v1, v2, v3, v4⟩ := HV.o.1.five; obtain ⟨u0, u1, u2, u3, u4⟩ := HV.o.2.five; clear hb1)
            | (go_at_call 8; (with_reducible refine (HE.o _ HB.o).mono ?_); clear HE; rintro e w2 ⟨rfl, hb2⟩; have HV2 := K.mk (HV.o.below hb2); have HB2 := K.mk (below2 HB.o hb2); obtain ⟨v0, v1, v2, v3, v4⟩ := HV2.o.1.five; obtain ⟨u0, u1, u2, u3, u4⟩ := HV2.o.2.five; clear hb2)
            | (go_at_call 8; (with_reducible refine (HF.o _ HB2.o).mono ?_); clear HF; rintro e w3 ⟨rfl, hb3⟩; have HV3 := K.mk (HV2.o.below hb3); have HB3 := K.mk (below2 HB2.o hb3); obtain ⟨v0, v1, v2, v3, v4⟩ := HV3.o.1.five; obtain ⟨u0, u1, u2, u3, u4⟩ := HV3.o.2.five; clear hb3)
            | (go_at_call 15; (with_reducible refine (HJ.o _ HB3.o).mono ?_); clear HJ; rintro e w4 ⟨rfl, hb4⟩; have HV4 := K.mk (HV3.o.below hb4); have HB4 := K.mk (below2 HB3.o hb4); obtain ⟨v0, v1, v2, v3, v4⟩ := HV4.o.1.five; obtain ⟨u0, u1, u2, u3, u4⟩ := HV4.o.2.five; clear hb4)
            | (go_at_call 16; (with_reducible refine (HR.o _ HB4.o).mono ?_); clear HR; rintro e w5 ⟨rfl, hb5⟩; have HV5 := K.mk (HV4.o.below hb5); have HB5 := K.mk (below2 HB4.o hb5); obtain ⟨v0, v1, v2, v3, v4⟩ := HV5.o.1.five; obtain ⟨u0, u1, u2, u3, u4⟩ := HV5.o.2.five; clear hb5)
            | (go_at_call 15; (with_reducible refine (HA.o _ HB5.o).mono ?_); clear HA; rintro e w6 ⟨rfl, hb6⟩; have HV6 := K.mk (HV5.o.below hb6); have HB6 := K.mk (below2 HB5.o hb6); obtain ⟨v0, v1, v2, v3, v4⟩ := HV6.o.1.five; obtain ⟨u0, u1, u2, u3, u4⟩ := HV6.o.2.five; clear hb6)
            | (go_at_call 13; (with_reducible refine (HC.o _ HB6.o).mono ?_); clear HC; rintro e w7 ⟨rfl, hb7⟩; have HV7 := K.mk (HV6.o.below hb7); have HB7 := K.mk (below2 HB6.o hb7); obtain ⟨v0, v1, v2, v3, v4⟩ := HV7.o.1.five; obtain ⟨u0, u1, u2, u3, u4⟩ := HV7.o.2.five; clear hb7)
            | (go_at_call 13; (with_reducible refine (HD.o _ HB7.o).mono ?_); clear HD; rintro e w8 ⟨rfl, hb8⟩; have HB8 := K.mk (below2 HB7.o hb8); clear hb8))
          go_ret
          exact ⟨ret_bool (by first | rfl | simp [hst]), HB8.o⟩
end Go.Proofs.YtjiokidindnolaaDoor
