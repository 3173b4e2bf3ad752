/- Walks: the law EntriesKeys, the walk. -/
import Derived.Test.YtgcbkecpplhknaaDoorEKeyMC
import Derived.Test.YtgcbkecpplhknaaDoorKept
import Derived.Test.YtgcbkecpplhknaaDoorEPlainW
import Derived.Test.YtgcbkecpplhknaaDoorJFew


import Derived.WalkKit
import Derived.Deep.QuietTactic
import Derived.BigQuiet
import Derived.Outline
import Derived.Deep.DeepMust
import Derived.Deep.CutBlock
import Derived.Deep.DeepCutAuto
import Derived.Deep.RegionWith
import Derived.WalkSpells
import Derived.WalkLawsBesides
import Derived.Test.YtgcbkecpplhknaaDoorMu
import Derived.Test.YtgcbkecpplhknaaDoorProg
set_option linter.unusedVariables false
set_option linter.unusedSimpArgs false
namespace Go.Proofs.YtgcbkecpplhknaaDoor
open Go.RowKit Go.Mu
attribute [local go_sem ↓] Go.wp_at_zero Go.wp_at_succ

theorem kept_bytes {w : World} {l : List UInt8} {v : Value} (h : SliceR (rByte.R w (fun _ => True)) 1 w (fun _ => True) l v) : Kept w (fun W => SliceR (rByte.R W (fun _ => True)) 1 W (fun _ => True) l v) := fun W hW => h.imp (fun b _ hlt => ⟨hW.block b hlt, trivial⟩) (fun _ _ _ h => h)
theorem keyXQ_any (x : IX) (doc : JV) : ∃ (kl : List UInt8) (ok : Bool) (ec : Int), kl.length ≤ 90 ∧ ∀ (w : World) (e : Ending) (w' : World), KeyXQ x doc w e w' → ∃ A c, e = .returned (.tuple #[.slice A kl.length c, .bool ok, .int .i64 ec]) ∧ SliceR (rByte.R w' (fun _ => True)) 1 w' (fun _ => True) kl (.slice A kl.length c) ∧ Below w.heap.size w w' := by
  have hn : ∀ w' : World, SliceR (rByte.R w' (fun _ => True)) 1 w' (fun _ => True) [] (.slice none 0 0) := fun w' => slice_nil _ _ _ _
  obtain ⟨n, l, hr⟩ : ∃ n l, keyR x doc = (n, l) := ⟨_, _, rfl⟩
  by_cases h3 : n = 3 ∧ l.length ≤ 90
  · refine ⟨l, true, 0, h3.2, fun w e w' h => ?_⟩
    obtain ⟨hb, h | h | h | ⟨l', A, c, h, he, hl, ho⟩⟩ := h
    · rw [hr] at h; obtain ⟨h, _⟩ := h; injection h with h _; omega
    · rw [hr] at h; obtain ⟨h, _⟩ := h; injection h with h _; omega
    · rw [hr] at h; obtain ⟨h, _⟩ := h; injection h with h _; omega
    · rw [hr] at h; injection h with _ h; subst h
      exact ⟨A, c, he, ho.slice (by unfold strMax; omega), hb⟩
  by_cases h0 : n = 0
  · refine ⟨[], false, 2, by decide, fun w e w' h => ?_⟩
    obtain ⟨hb, h | h | h | ⟨l', A, c, h, he, hl, ho⟩⟩ := h
    · exact ⟨none, 0, h.2, hn _, hb⟩
    · rw [hr] at h; obtain ⟨h, _⟩ := h; injection h with h _; omega
    · rw [hr] at h; obtain ⟨h, _⟩ := h; injection h with h _; omega
    · rw [hr] at h; injection h with h _; omega
  by_cases h1 : n = 1
  · refine ⟨[], false, 0, by decide, fun w e w' h => ?_⟩
    obtain ⟨hb, h | h | h | ⟨l', A, c, h, he, hl, ho⟩⟩ := h
    · rw [hr] at h; obtain ⟨h, _⟩ := h; injection h with h _; omega
    · exact ⟨none, 0, h.2, hn _, hb⟩
    · rw [hr] at h; obtain ⟨h, _⟩ := h; injection h with h _; omega
    · rw [hr] at h; injection h with h _; omega
  · refine ⟨[], false, 3, by decide, fun w e w' h => ?_⟩
    obtain ⟨hb, h | h | h | ⟨l', A, c, h, he, hl, ho⟩⟩ := h
    · rw [hr] at h; obtain ⟨h, _⟩ := h; injection h with h _; omega
    · rw [hr] at h; obtain ⟨h, _⟩ := h; injection h with h _; omega
    · exact ⟨none, 0, h.2, hn _, hb⟩
    · rw [hr] at h; injection h with h h2; subst h2; exact absurd ⟨h, hl⟩ h3

set_option maxRecDepth 100000 in
set_option maxHeartbeats 8000000 in
theorem EntriesKeys_calls (x : IX) (v : JV) (cs ds : List Value) (S S' : Blocks) (w : World) (h : rIX.R w S x cs) (hv : RV w S' v ds) (hT : Tabs w) :
    Calls Tryd.prog 5 #[.agg cs.toArray, .agg ds.toArray] w fun e w' => e = .returned (.bool true) ∧ Below w.heap.size w w' := by
  have HW := K.mk (fun w' (hb : Below w.heap.size w w') => awake17_calls w' (hT.below hb))
  have HE := K.mk (fun w' (hb : Below w.heap.size w w') => few17_calls x cs S w' (rIX.below h hb))
  have HG := K.mk (fun w' (hb : Below w.heap.size w w') => Few_calls v ds S' w' (rV.below hv hb))
  obtain ⟨kl, ok, ec, hk90, hkq⟩ := keyXQ_any x v
  have HKA := K.mk (fun w' (hb : Below w.heap.size w w') => (key_calls x v cs ds S S' w' (rIX.below h hb) (rV.below hv hb) (hT.below hb)).mono (hkq w'))
  have HKB := K.mk (fun cs' w' (hb : Below w.heap.size w w') (hR : rIX.R w' (fun _ => True) x cs') => (refKey_calls x v cs' ds (fun _ => True) S' w' hR (rV.below hv hb) (hT.below hb)).mono (hkq w'))
  have HPX := K.mk (fun (h10 : x.fields.length ≤ 10) w' (hb : Below w.heap.size w w') => plain17_calls x cs S w' (rIX.below h hb) h10)
  have HSM := K.mk (fun (A A' : Option Addr) (c c' : Nat) w' (h1 : SliceR (rByte.R w' (fun _ => True)) 1 w' (fun _ => True) kl (.slice A kl.length c)) (h2 : SliceR (rByte.R w' (fun _ => True)) 1 w' (fun _ => True) kl (.slice A' kl.length c')) => SameB_calls kl kl A A' c c' _ _ w' h1 h2)
  simp only [decide_true] at HSM
  obtain ⟨A, c, rfl, hfi, hns⟩ := rIX_open h
  obtain ⟨An, cn, Ai, ci, rfl, hnm, hit, hk, hn, ht⟩ := hv.wide
  clear hfi hnm hit h hv hT hkq
  cases hq : fewX x
  · rw [hq] at HE
    clear hq
    go_enter Tryd.func5, Tryd.ntmps5
    go_wp2_with (first
      | (go_at_call 10; refine (HW.o _ (below_a2 _ _ _)).mono ?_; rintro e w1 ⟨rfl, hb1⟩; have HV := K.mk ((Blk.new1 _ _ _ _).below hb1 (by simp; omega)); obtain ⟨v0, v1, v2⟩ := HV.o.three; have HB := K.mk (below2 (below_a2 _ _ _) hb1); clear hb1)
      | (go_at_call 11; go_must (refine (HE.o _ HB.o).mono ?_); rintro e w2 ⟨rfl, hb2⟩; have HB2 := K.mk (below2 HB.o hb2); clear hb2)
      | (go_at_call 10; go_must (refine (HW.o _ HB2.o).mono ?_); rintro e w3 ⟨rfl, hb3⟩))
    go_ret
    exact ⟨rfl, below2 HB2.o hb3⟩
  rw [hq] at HE
  have h10 : x.fields.length ≤ 10 := by unfold fewX at hq; simp at hq; exact hq.1.1
  have HPX1 := K.mk (HPX.o h10)
  clear hq h10 HPX
  cases hr : fewS v
  · rw [hr] at HG
    clear hr
    go_enter Tryd.func5, Tryd.ntmps5
    go_wp2_with (first
      | (go_at_call 10; refine (HW.o _ (below_a2 _ _ _)).mono ?_; rintro e w1 ⟨rfl, hb1⟩; have HV := K.mk ((Blk.new1 _ _ _ _).below hb1 (by simp; omega)); have HU := K.mk ((Blk.new2 _ _ _ _).below hb1 (by simp)); obtain ⟨v0, v1, v2⟩ := HV.o.three; have HB := K.mk (below2 (below_a2 _ _ _) hb1); clear hb1)
      | (go_at_call 11; go_must (refine (HE.o _ HB.o).mono ?_); rintro e w2 ⟨rfl, hb2⟩; have HB2 := K.mk (below2 HB.o hb2); have HU2 := K.mk (HU.o.below hb2 HU.o.lt); obtain ⟨u0, u1, u2, u3, u4⟩ := HU2.o.five; clear hb2)
      | (go_at_call 17; go_must (refine (HG.o _ HB2.o).mono ?_); rintro e w3 ⟨rfl, hb3⟩; have HB3 := K.mk (below2 HB2.o hb3); clear hb3)
      | (go_at_call 10; go_must (refine (HW.o _ HB3.o).mono ?_); rintro e w4 ⟨rfl, hb4⟩))
    go_ret
    exact ⟨rfl, below2 HB3.o hb4⟩
  rw [hr] at HG
  clear hr
  go_enter Tryd.func5, Tryd.ntmps5
  go_wp2_with (first
    | (go_at_call 10; refine (HW.o _ (below_a2 _ _ _)).mono ?_; rintro e w1 ⟨rfl, hb1⟩; have HV := K.mk ((Blk.new1 _ _ _ _).below hb1 (by simp; omega)); have HU := K.mk ((Blk.new2 _ _ _ _).below hb1 (by simp)); obtain ⟨v0, v1, v2⟩ := HV.o.three; have HB := K.mk (below2 (below_a2 _ _ _) hb1); clear hb1)
    | (go_at_call 11; go_must (refine (HE.o _ HB.o).mono ?_); rintro e w2 ⟨rfl, hb2⟩; have HV2 := K.mk (HV.o.below hb2 HV.o.lt); have HB2 := K.mk (below2 HB.o hb2); have HU2 := K.mk (HU.o.below hb2 HU.o.lt); obtain ⟨u0, u1, u2, u3, u4⟩ := HU2.o.five; clear hb2)
    | (go_at_call 17; go_must (refine (HG.o _ HB2.o).mono ?_); rintro e w3 ⟨rfl, hb3⟩; have HK3 := K.mk ((Kept.base (below2 HB2.o hb3)).and ((Kept.blk (HV2.o.below hb3 HV2.o.lt)).and (Kept.blk (HU2.o.below hb3 HU2.o.lt)))); obtain ⟨HB3, ⟨HX3, hx3⟩, ⟨HU3, hu3⟩⟩ := HK3.o.now; obtain ⟨v0, v1, v2⟩ := HX3.three; obtain ⟨u0, u1, u2, u3, u4⟩ := HU3.five; clear hb3 HV HV2 HU HU2 HB HB2)
    | (go_at_call 25; go_must ((refine (HKA.o _ HB3).mono ?_; rintro e w5 ⟨aA, ac, rfl, hR5, hb5⟩; have HK5 := K.mk ((HK3.o.step hb5).and (kept_bytes hR5)); clear hb5 hR5 HB3 HX3 hx3 HU3 hu3))))
  have ga0 := fun W (hW : Below w5.heap.size w5 W) => (HK5.o W hW).1.2.1.1.cell 0 rfl
  have ga1 := fun W (hW : Below w5.heap.size w5 W) => (HK5.o W hW).1.2.1.1.cell 1 rfl
  have ga2 := fun W (hW : Below w5.heap.size w5 W) => (HK5.o W hW).1.2.1.1.cell 2 rfl
  have gb0 := fun W (hW : Below w5.heap.size w5 W) => (HK5.o W hW).1.2.2.1.cell 0 rfl
  have gb1 := fun W (hW : Below w5.heap.size w5 W) => (HK5.o W hW).1.2.2.1.cell 1 rfl
  have gb2 := fun W (hW : Below w5.heap.size w5 W) => (HK5.o W hW).1.2.2.1.cell 2 rfl
  have gb3 := fun W (hW : Below w5.heap.size w5 W) => (HK5.o W hW).1.2.2.1.cell 3 rfl
  have gb4 := fun W (hW : Below w5.heap.size w5 W) => (HK5.o W hW).1.2.2.1.cell 4 rfl
  clear v0 v1 v2 u0 u1 u2 u3 u4 HK3 HW HE HG HKA
  go_region_held3 (fun w' => Below w5.heap.size w5 w') (first | assumption | exact Below.drew (Below.refl _ _) | exact below2 (by assumption) (by assumption))
    (first
      | (go_at_call 14; refine (HPX1.o _ (HK5.o _ (by assumption)).1.1).mono ?_; rintro e wc ⟨csc, rfl, hRc, hbc⟩; have HRC := K.mk hRc; clear hRc)
      | (go_at_call 26; refine (HKB.o csc _ (HK5.o _ (by assumption)).1.1 (by first | exact HRC.o | exact rIX.below HRC.o (by assumption))).mono ?_; rintro e wd ⟨bA, bc, rfl, hRd, hbd⟩; have HRD := K.mk hRd; clear hRd))
  rename_i HD
  have HSQ := K.mk (HSM.o aA bA ac bc _ (HK5.o _ HD).2 HRD.o)
  have HBD := K.mk ((HK5.o _ HD).1.1)
  clear ga0 ga1 ga2 gb0 gb1 gb2 gb3 gb4 HSM HKB HPX1
  go_wp2_with (go_at_call 27; go_must ((refine HSQ.o.mono ?_; rintro e we ⟨rfl, hbe⟩)))
  go_ret
  exact ⟨rfl, below2 HBD.o hbe⟩
end Go.Proofs.YtgcbkecpplhknaaDoor
