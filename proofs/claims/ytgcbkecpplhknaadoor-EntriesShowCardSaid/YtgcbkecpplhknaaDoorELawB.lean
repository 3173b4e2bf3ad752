/- Walks: the law EntriesShow, the walk. -/
import Derived.Test.YtgcbkecpplhknaaDoorEShowL
import Derived.Test.YtgcbkecpplhknaaDoorEShowS


import Derived.WalkKit
import Derived.Deep.QuietTactic
import Derived.BigQuiet
import Derived.Outline
import Derived.Deep.DeepMust
import Derived.Deep.CutBlock
import Derived.Deep.DeepCutAuto
import Derived.Deep.RegionWith
import Derived.WalkSpells
import Derived.WalkLawsBesides
import Derived.Test.YtgcbkecpplhknaaDoorMu
import Derived.Test.YtgcbkecpplhknaaDoorProg
set_option linter.unusedVariables false
set_option linter.unusedSimpArgs false
namespace Go.Proofs.YtgcbkecpplhknaaDoor
open Go.RowKit Go.Mu
attribute [local go_sem ↓] Go.wp_at_zero Go.wp_at_succ

set_option maxRecDepth 100000 in
set_option maxHeartbeats 8000000 in
theorem EntriesShow_calls (x : IX) (v : JV) (cs ds : List Value) (S S' : Blocks) (w : World) (h : rIX.R w S x cs) (hv : RV w S' v ds) (hT : Tabs w) :
    Calls Tryd.prog 4 #[.agg cs.toArray, .agg ds.toArray] w fun e w' => e = .returned (.bool true) ∧ Below w.heap.size w w' := by
  have HW := K.mk (fun w' (hb : Below w.heap.size w w') => awake17_calls w' (hT.below hb))
  have HE := K.mk (fun w' (hb : Below w.heap.size w w') => few17_calls x cs S w' (rIX.below h hb))
  have HG := K.mk (fun w' (hb : Below w.heap.size w w') => Few_calls v ds S' w' (rV.below hv hb))
  obtain ⟨sv, ec, hs1, hs2⟩ : ∃ (sv : JV) (ec : Int), (formX x = true → sv = showX x ∧ ec = 0) ∧ (formX x = false → sv = leafK 0 ∧ ec = 2) := by
    cases formX x
    · exact ⟨leafK 0, 2, (fun h => by cases h), fun _ => ⟨rfl, rfl⟩⟩
    · exact ⟨showX x, 0, fun _ => ⟨rfl, rfl⟩, (fun h => by cases h)⟩
  obtain ⟨xv, gc, hp1, hp2⟩ : ∃ (xv : IX) (gc : Int), (∀ y, parseX v = some y → xv = y ∧ gc = 0) ∧ (parseX v = none → xv = zIX ∧ gc = 2) := by
    cases parseX v with
    | none => exact ⟨zIX, 2, (fun y h => by cases h), fun _ => ⟨rfl, rfl⟩⟩
    | some y => exact ⟨y, 0, fun z h => (by injection h with h; exact ⟨h, rfl⟩), (fun h => by cases h)⟩
  have hx10 : xv.fields.length ≤ 10 := by
    cases hq : parseX v with
    | none => rw [(hp2 hq).1]; exact Nat.zero_le _
    | some y => rw [(hp1 y hq).1]; have := (formX_len (parse_form hq)).1; omega
  have HS := K.mk (fun w' (hb : Below w.heap.size w w') => (Show_calls x cs S w' (rIX.below h hb) (hT.below hb)).mono fun e w'' hh => showQ_open hh sv ec hs1 hs2)
  have HRS := K.mk (fun cs' w' (hb : Below w.heap.size w w') (hR : rIX.R w' (fun _ => True) x cs') => (refShow_calls x cs' (fun _ => True) w' hR (hT.below hb)).mono fun e w'' hh => showQ_open hh sv ec hs1 hs2)
  have HPV := K.mk (fun (hf : fewS v = true) w' (hb : Below w.heap.size w w') => (Parse_calls v ds S' w' (rV.below hv hb) (few_items hf) (hT.below hb)).mono fun e w'' hh => parseQ_open hh xv gc hp1 hp2)
  have HRP := K.mk (fun w' (hb : Below w.heap.size w w') => (rParse_calls v ds S' w' (rV.below hv hb) (hT.below hb)).mono fun e w'' hh => parseQ_open hh xv gc hp1 hp2)
  have HPA := K.mk (fun (hf : formX x = true) cs' w' (hb : Below w.heap.size w w') (hR : RV w' (fun _ => True) (showX x) cs') => (Parse_calls (showX x) cs' (fun _ => True) w' hR (by show (List.map _ x.fields).length ≤ 1000; rw [List.length_map]; have := (formX_len hf).1; omega) (hT.below hb)).mono fun e w'' hh => parseQ_open hh x 0 (fun y hy => by rw [parse_show hf] at hy; injection hy with hy; exact ⟨hy, rfl⟩) (fun hy => by rw [parse_show hf] at hy; cases hy))
  have HPX := K.mk (fun (h10 : x.fields.length ≤ 10) w' (hb : Below w.heap.size w w') => plain17_calls x cs S w' (rIX.below h hb) h10)
  have HPP := K.mk (fun (y : IX) (h10 : y.fields.length ≤ 10) cs' w' (hR : rIX.R w' (fun _ => True) y cs') => plain17_calls y cs' (fun _ => True) w' hR h10)
  have HJ := K.mk (fun (a : JV) cs' cs'' w' (hR : RV w' (fun _ => True) a cs') (hR' : RV w' (fun _ => True) a cs'') => ref_Same_calls a a cs' cs'' (fun _ => True) (fun _ => True) w' hR hR')
  have HX := K.mk (fun (y : IX) cs' cs'' w' (hR : rIX.R w' (fun _ => True) y cs') (hR' : rIX.R w' (fun _ => True) y cs'') => refSameX_calls y y cs' cs'' (fun _ => True) (fun _ => True) w' hR hR')
  have HF := K.mk (fun (hf : formX x = true) cs' w' (hb : Below w.heap.size w w') (hR : RV w' (fun _ => True) (showX x) cs') => json_Formed_calls (showX x) cs' (fun _ => True) w' hR (hT.below hb))
  simp only [sameS_true (rfl : _ = _)] at HJ
  simp only [sameX_true (rfl : _ = _)] at HX
  have HF2 : K (formX x = true → ∀ cs' w', Below w.heap.size w w' → RV w' (fun _ => True) (showX x) cs' → Calls Tryd.prog 24 #[.agg cs'.toArray] w' fun e w'' => e = .returned (.bool true) ∧ Below w'.heap.size w' w'') := ⟨fun hf cs' w' hb hR => by have h1 := HF.o hf cs' w' hb hR; rw [show_formed hf] at h1; exact h1⟩
  obtain ⟨A, c, rfl, hfi, hns⟩ := rIX_open h
  obtain ⟨An, cn, Ai, ci, rfl, hnm, hit, hk, hn, ht⟩ := hv.wide
  clear hfi hnm hit h hv hT hp1 hp2 HF
  cases hq : fewX x
  · rw [hq] at HE
    clear hq hs1 hs2
    go_enter Tryd.func4, Tryd.ntmps4
    go_wp2_with (first
      | (go_at_call 10; refine (HW.o _ (below_a2 _ _ _)).mono ?_; rintro e w1 ⟨rfl, hb1⟩; have HV := K.mk ((Blk.new1 _ _ _ _).below hb1 (by simp; omega)); obtain ⟨v0, v1, v2⟩ := HV.o.three; have HB := K.mk (below2 (below_a2 _ _ _) hb1); clear hb1)
      | (go_at_call 11; go_must (refine (HE.o _ HB.o).mono ?_); rintro e w2 ⟨rfl, hb2⟩; have HB2 := K.mk (below2 HB.o hb2); clear hb2)
      | (go_at_call 10; go_must (refine (HW.o _ HB2.o).mono ?_); rintro e w3 ⟨rfl, hb3⟩))
    go_ret
    exact ⟨rfl, below2 HB2.o hb3⟩
  rw [hq] at HE
  have h10 : x.fields.length ≤ 10 := by unfold fewX at hq; simp at hq; exact hq.1.1
  have HPX1 := K.mk (HPX.o h10)
  have HPP1 := K.mk (HPP.o xv hx10)
  have HPP2 := K.mk (HPP.o x h10)
  have HX1 := K.mk (HX.o xv)
  have HX2 := K.mk (HX.o x)
  have HJ1 := K.mk (HJ.o sv)
  clear hq h10 HPP hx10 HX HJ HPX
  cases hr : fewS v
  · rw [hr] at HG
    clear hr hs1 hs2
    go_enter Tryd.func4, Tryd.ntmps4
    go_wp2_with (first
      | (go_at_call 10; refine (HW.o _ (below_a2 _ _ _)).mono ?_; rintro e w1 ⟨rfl, hb1⟩; have HV := K.mk ((Blk.new1 _ _ _ _).below hb1 (by simp; omega)); have HU := K.mk ((Blk.new2 _ _ _ _).below hb1 (by simp)); obtain ⟨v0, v1, v2⟩ := HV.o.three; have HB := K.mk (below2 (below_a2 _ _ _) hb1); clear hb1)
      | (go_at_call 11; go_must (refine (HE.o _ HB.o).mono ?_); rintro e w2 ⟨rfl, hb2⟩; have HB2 := K.mk (below2 HB.o hb2); have HU2 := K.mk (HU.o.below hb2 HU.o.lt); obtain ⟨u0, u1, u2, u3, u4⟩ := HU2.o.five; clear hb2)
      | (go_at_call 17; go_must (refine (HG.o _ HB2.o).mono ?_); rintro e w3 ⟨rfl, hb3⟩; have HB3 := K.mk (below2 HB2.o hb3); clear hb3)
      | (go_at_call 10; go_must (refine (HW.o _ HB3.o).mono ?_); rintro e w4 ⟨rfl, hb4⟩))
    go_ret
    exact ⟨rfl, below2 HB3.o hb4⟩
  rw [hr] at HG
  have HPV1 := K.mk (HPV.o hr)
  clear hr HPV
  go_enter Tryd.func4, Tryd.ntmps4
  go_wp2_with (first
    | (go_at_call 10; refine (HW.o _ (below_a2 _ _ _)).mono ?_; rintro e w1 ⟨rfl, hb1⟩; have HV := K.mk ((Blk.new1 _ _ _ _).below hb1 (by simp; omega)); have HU := K.mk ((Blk.new2 _ _ _ _).below hb1 (by simp)); obtain ⟨v0, v1, v2⟩ := HV.o.three; have HB := K.mk (below2 (below_a2 _ _ _) hb1); clear hb1)
    | (go_at_call 11; go_must (refine (HE.o _ HB.o).mono ?_); rintro e w2 ⟨rfl, hb2⟩; have HV2 := K.mk (HV.o.below hb2 HV.o.lt); have HB2 := K.mk (below2 HB.o hb2); have HU2 := K.mk (HU.o.below hb2 HU.o.lt); obtain ⟨u0, u1, u2, u3, u4⟩ := HU2.o.five; clear hb2)
    | (go_at_call 17; go_must (refine (HG.o _ HB2.o).mono ?_); rintro e w3 ⟨rfl, hb3⟩; have HK3 := K.mk ((Kept.base (below2 HB2.o hb3)).and ((Kept.blk (HV2.o.below hb3 HV2.o.lt)).and (Kept.blk (HU2.o.below hb3 HU2.o.lt)))); obtain ⟨HB3, ⟨HX3, hx3⟩, ⟨HU3, hu3⟩⟩ := HK3.o.now; obtain ⟨v0, v1, v2⟩ := HX3.three; clear hb3 HV HV2 HU HU2 HB HB2)
    | (go_at_call 18; go_must (refine (HS.o _ HB3).mono ?_); rintro e w5 ⟨cs5, rfl, hR5, hb5⟩; obtain ⟨aAn, acn, aAi, aci, rfl, _⟩ := hR5.wide; have HK5 := K.mk (HK3.o.step hb5); have HR5 := K.mk (Kept.rv hR5); obtain ⟨HB5, ⟨HX5, hx5⟩, ⟨HU5, hu5⟩⟩ := HK5.o.now; obtain ⟨v0, v1, v2⟩ := HX5.three; clear hb5 hR5 HB3 HX3 hx3 HU3 hu3)
    | (go_at_call 14; go_must (refine (HPX1.o _ (HB5.alloc HB5.size _)).mono ?_); rintro e w6 ⟨cs6, rfl, hR6, hb6⟩; have HK6 := K.mk (((HK5.o.step (below_a1 _ _)).and ((HR5.o.step (below_a1 _ _)).and (Kept.blk (Blk.new _ _ _)))).step hb6); have HR6 := K.mk hR6; clear hb6 hR6 HK5)
    | (go_at_call 19; go_must (refine (HRS.o cs6 _ HK6.o.now.1.1 HR6.o).mono ?_); rintro e w7 ⟨cs7, rfl, hR7, hb7⟩; obtain ⟨bAn, bcn, bAi, bci, rfl, _⟩ := hR7.wide; have HK7 := K.mk (HK6.o.step hb7); have HR7 := K.mk (Kept.rv hR7); obtain ⟨⟨HB7, ⟨HX7, hx7⟩, ⟨HU7, hu7⟩⟩, _⟩ := HK7.o.now; obtain ⟨u0, u1, u2, u3, u4⟩ := HU7.five; clear hb7 hR7 HK6 HR6)
    | (go_at_call 20; go_must (refine (HPV1.o _ (HB7.alloc HB7.size _)).mono ?_); rintro e w8 ⟨cs8, rfl, hR8, hb8⟩; obtain ⟨yA, yc, rfl, _, _⟩ := rIX_open hR8; have HK8 := K.mk (((HK7.o.step (below_a1 _ _)).and ((HR7.o.step (below_a1 _ _)).and (Kept.blk (Blk.new _ _ _)))).step hb8); have HR8 := K.mk (Kept.rix hR8); obtain ⟨⟨⟨HB8, ⟨HX8, hx8⟩, ⟨HU8, hu8⟩⟩, _⟩, _⟩ := HK8.o.now; obtain ⟨u0, u1, u2, u3, u4⟩ := HU8.five; clear hb8 hR8 HK7)
    | (go_at_call 21; go_must (refine (HRP.o _ (HB8.alloc HB8.size _)).mono ?_); rintro e w9 ⟨cs9, rfl, hR9, hb9⟩; obtain ⟨zA, zc, rfl, _, _⟩ := rIX_open hR9; have HK9 := K.mk ((((HK8.o.step (below_a1 _ _)).and ((HR8.o.step (below_a1 _ _)).and (Kept.blk (Blk.new _ _ _)))).step hb9)); have HR9 := K.mk (Kept.rix hR9); clear hb9 hR9 HK8))
  have HKA := K.mk ((HK9.o.step (below_a1 _ (.cells #[.string xv.name, .slice zA xv.fields.length zc, .bool xv.unique] 30))).and ((HR9.o.step (below_a1 _ _)).and (Kept.blk (Blk.new _ _ _))))
  generalize w9.alloc (.cells #[.string xv.name, .slice zA xv.fields.length zc, .bool xv.unique] 30) = wa at *
  have HJ2 := K.mk (fun W (hW : Below wa.heap.size wa W) => HJ1.o _ _ W (HKA.o W hW).1.1.1.2.1 (HKA.o W hW).1.1.2.1)
  have HPY := K.mk (fun W (hW : Below wa.heap.size wa W) => HPP1.o _ W (HKA.o W hW).1.2.1)
  have HX3 := K.mk (fun cs' W (hR : rIX.R W (fun _ => True) xv cs') (hW : Below wa.heap.size wa W) => HX1.o cs' _ W hR (HKA.o W hW).2.1)
  have ga0 := fun W (hW : Below wa.heap.size wa W) => (HKA.o W hW).1.1.1.2.2.1.cell 0 rfl
  have ga1 := fun W (hW : Below wa.heap.size wa W) => (HKA.o W hW).1.1.1.2.2.1.cell 1 rfl
  have ga2 := fun W (hW : Below wa.heap.size wa W) => (HKA.o W hW).1.1.1.2.2.1.cell 2 rfl
  have ga3 := fun W (hW : Below wa.heap.size wa W) => (HKA.o W hW).1.1.1.2.2.1.cell 3 rfl
  have ga4 := fun W (hW : Below wa.heap.size wa W) => (HKA.o W hW).1.1.1.2.2.1.cell 4 rfl
  have gb0 := fun W (hW : Below wa.heap.size wa W) => (HKA.o W hW).1.1.2.2.1.cell 0 rfl
  have gb1 := fun W (hW : Below wa.heap.size wa W) => (HKA.o W hW).1.1.2.2.1.cell 1 rfl
  have gb2 := fun W (hW : Below wa.heap.size wa W) => (HKA.o W hW).1.1.2.2.1.cell 2 rfl
  have gb3 := fun W (hW : Below wa.heap.size wa W) => (HKA.o W hW).1.1.2.2.1.cell 3 rfl
  have gb4 := fun W (hW : Below wa.heap.size wa W) => (HKA.o W hW).1.1.2.2.1.cell 4 rfl
  have gy0 := fun W (hW : Below wa.heap.size wa W) => (HKA.o W hW).1.2.2.1.cell 0 rfl
  have gy1 := fun W (hW : Below wa.heap.size wa W) => (HKA.o W hW).1.2.2.1.cell 1 rfl
  have gy2 := fun W (hW : Below wa.heap.size wa W) => (HKA.o W hW).1.2.2.1.cell 2 rfl
  have gz0 := fun W (hW : Below wa.heap.size wa W) => (HKA.o W hW).2.2.1.cell 0 rfl
  have gz1 := fun W (hW : Below wa.heap.size wa W) => (HKA.o W hW).2.2.1.cell 1 rfl
  have gz2 := fun W (hW : Below wa.heap.size wa W) => (HKA.o W hW).2.2.1.cell 2 rfl
  clear HW HE HG HS HRS HRP HPP1 HX1 HJ1 HPV1 HK3 HR5 HR7 HR8 HR9 HK9 v0 v1 v2 u0 u1 u2 u3 u4 HB8 hx8 HX8 HU8 hu8 HB7 hx7 hu7 HU7 HX7 HB5 hx5 hu5 HU5 HX5
  go_region_held3 (fun w' => Below wa.heap.size wa w') (first | assumption | exact Below.drew (Below.refl _ _) | exact below2 (by assumption) (by assumption))
    (first
      | (go_at_call 22; refine (HJ2.o _ (by assumption)).mono ?_; rintro e wb ⟨rfl, hbb⟩)
      | (go_at_call 14; refine (HPY.o _ (by assumption)).mono ?_; rintro e wc ⟨csc, rfl, hRc, hbc⟩; have HRC := K.mk hRc; clear hRc)
      | (go_at_call 23; refine (HX3.o csc _ (by first | exact HRC.o | exact rIX.below HRC.o (by assumption)) (by assumption)).mono ?_; rintro e wd ⟨rfl, hbd⟩))
  rename_i HD
  clear HJ2 HPY HX3 HRC hbb hbc hbd gb0 gb1 gb2 gb3 gb4 gy0 gy1 gy2 gz0 gz1 gz2
  have HKD := K.mk (HKA.o.step HD)
  clear HKA
  cases hq : formX x
  · obtain ⟨hsv, rfl⟩ := hs2 hq
    clear hsv hs1 hs2 hq
    go_wp2_with fail
    go_ret
    exact ⟨rfl, HKD.o.now.1.1.1.1.1⟩
  · obtain ⟨hsv, rfl⟩ := hs1 hq
    have HPQ := K.mk (fun W (hW : Below wd.heap.size wd W) => HPA.o hq _ W (HKD.o W hW).1.1.1.1.1 (by rw [← hsv]; exact (HKD.o W hW).1.1.1.2.1))
    have HFQ := K.mk (fun W (hW : Below wd.heap.size wd W) => HF2.o hq _ W (HKD.o W hW).1.1.1.1.1 (by rw [← hsv]; exact (HKD.o W hW).1.1.1.2.1))
    clear hsv hs1 hs2 hq HPA HF2
    have a0 := ga0 _ HD
    have a1 := ga1 _ HD
    have a2 := ga2 _ HD
    have a3 := ga3 _ HD
    have a4 := ga4 _ HD
    clear ga0 ga1 ga2 ga3 ga4
    go_wp2_with (go_at_call 20; go_must (refine (HPQ.o _ (Below.refl _ _)).mono ?_); rintro e we ⟨cse, rfl, hRe, hbe⟩; obtain ⟨qA, qc, rfl, _, _⟩ := rIX_open hRe; have HKE := K.mk ((((Kept.base hbe).and (HKD.o.step hbe)).step (below_a1 _ (.cells #[.string x.name, .slice qA x.fields.length qc, .bool x.unique] 24))).and (((Kept.rix hRe).step (below_a1 _ _)).and (Kept.blk (Blk.new _ _ _)))); clear hbe hRe HKD)
    clear a0 a1 a2 a3 a4
    generalize we.alloc (.cells #[.string x.name, .slice qA x.fields.length qc, .bool x.unique] 24) = wf at *
    have HPW := K.mk (fun W (hW : Below wf.heap.size wf W) => HPP2.o _ W (HKE.o W hW).2.1)
    have HPZ := K.mk (fun W (hW : Below wf.heap.size wf W) => HPX1.o W (HKE.o W hW).1.2.1.1.1.1.1)
    have HFZ := K.mk (fun W (hW : Below wf.heap.size wf W) => HFQ.o W (HKE.o W hW).1.1)
    have ga0 := fun W (hW : Below wf.heap.size wf W) => (HKE.o W hW).1.2.1.1.1.2.2.1.cell 0 rfl
    have ga1 := fun W (hW : Below wf.heap.size wf W) => (HKE.o W hW).1.2.1.1.1.2.2.1.cell 1 rfl
    have ga2 := fun W (hW : Below wf.heap.size wf W) => (HKE.o W hW).1.2.1.1.1.2.2.1.cell 2 rfl
    have ga3 := fun W (hW : Below wf.heap.size wf W) => (HKE.o W hW).1.2.1.1.1.2.2.1.cell 3 rfl
    have ga4 := fun W (hW : Below wf.heap.size wf W) => (HKE.o W hW).1.2.1.1.1.2.2.1.cell 4 rfl
    have gx0 := fun W (hW : Below wf.heap.size wf W) => (HKE.o W hW).1.2.1.1.1.1.2.1.1.cell 0 rfl
    have gx1 := fun W (hW : Below wf.heap.size wf W) => (HKE.o W hW).1.2.1.1.1.1.2.1.1.cell 1 rfl
    have gx2 := fun W (hW : Below wf.heap.size wf W) => (HKE.o W hW).1.2.1.1.1.1.2.1.1.cell 2 rfl
    have gq0 := fun W (hW : Below wf.heap.size wf W) => (HKE.o W hW).2.2.1.cell 0 rfl
    have gq1 := fun W (hW : Below wf.heap.size wf W) => (HKE.o W hW).2.2.1.cell 1 rfl
    have gq2 := fun W (hW : Below wf.heap.size wf W) => (HKE.o W hW).2.2.1.cell 2 rfl
    clear HPP2 HFQ HPQ
    go_region_held3 (fun w' => Below wf.heap.size wf w') (first | assumption | exact Below.drew (Below.refl _ _) | exact below2 (by assumption) (by assumption))
      (first
        | (go_at_call 14; (with_reducible refine (HPW.o _ (by assumption)).mono ?_); rintro e wg ⟨csg, rfl, hRg, hbg⟩; have HRG := K.mk hRg; clear hRg)
        | (go_at_call 14; (with_reducible refine (HPZ.o _ (by assumption)).mono ?_); rintro e wh ⟨csh, rfl, hRh, hbh⟩; have HRH := K.mk hRh; clear hRh)
        | (go_at_call 23; refine (HX2.o csg csh _ (by first | exact HRG.o | exact rIX.below HRG.o (by assumption)) (by first | exact HRH.o | exact rIX.below HRH.o (by assumption))).mono ?_; rintro e wi ⟨rfl, hbi⟩)
        | (go_at_call 24; refine (HFZ.o _ (by assumption)).mono ?_; rintro e wj ⟨rfl, hbj⟩))
    all_goals
      go_wp2_with fail
      go_ret
      exact ⟨ret_bool (by simp), (HKE.o _ (by assumption)).1.2.1.1.1.1.1⟩
end Go.Proofs.YtgcbkecpplhknaaDoor
