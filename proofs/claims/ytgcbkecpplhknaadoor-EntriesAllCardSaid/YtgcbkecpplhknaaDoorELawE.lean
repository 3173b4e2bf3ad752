/- Walks: the law EntriesAll, the walk. -/
import Derived.Test.YtgcbkecpplhknaaDoorEAll
import Derived.Test.YtgcbkecpplhknaaDoorKept
import Derived.Test.YtgcbkecpplhknaaDoorJFew


import Derived.WalkKit
import Derived.Deep.QuietTactic
import Derived.BigQuiet
import Derived.Outline
import Derived.Deep.DeepMust
import Derived.Deep.CutBlock
import Derived.Deep.DeepCutAuto
import Derived.Deep.RegionWith
import Derived.WalkSpells
import Derived.WalkLawsBesides
import Derived.Test.YtgcbkecpplhknaaDoorMu
import Derived.Test.YtgcbkecpplhknaaDoorProg
set_option linter.unusedVariables false
set_option linter.unusedSimpArgs false
namespace Go.Proofs.YtgcbkecpplhknaaDoor
open Go.RowKit Go.Mu
attribute [local go_sem ↓] Go.wp_at_zero Go.wp_at_succ

/-- An index whose memory lies behind B. -/
def rIXn (B : Nat) : Rep IX where
  sz := 3
  R := fun w S x cs => rIX.R w (fun b => S b ∧ B ≤ b) x cs
  len := fun h => rIX.len h
  one := fun h => rIX.one h
  frame := fun h hm => rIX.frame h (fun b hb => hm b hb.1)
  mono := fun h hm => rIX.mono h (fun b hb => ⟨hm b hb.1, hb.2⟩)
  bound := fun h => rIX.mono (rIX.bound h) (fun b hb => ⟨⟨hb.1.1, hb.2⟩, hb.1.2⟩)
theorem ix_info : ∃ i, Tryd.prog.info? 30 = some i ∧ i.zero = some (.agg #[.string ⟨#[]⟩, .slice none 0 0, .bool false]) ∧ i.size = 3 ∧ i.bytes = 48 := by
  have h : (Tryd.prog.info? 30).map (fun i => (i.zero, i.size, i.bytes)) = some (some (.agg #[.string ⟨#[]⟩, .slice none 0 0, .bool false]), 3, 48) := by kernel_rfl
  obtain ⟨i, hi, he⟩ := Option.map_eq_some_iff.1 h
  injection he with h1 h2
  injection h2 with h2 h3
  exact ⟨i, hi, h1, h2, h3⟩
theorem allQ_is_err {doc : JV} {xs : List IX} {w w' : World} {e : Ending} (h : allE doc xs ≠ 0) (hq : AllQ doc xs w e w') : e = .returned (.tuple #[.slice none 0 0, .int .i64 (allE doc xs)]) ∧ Below w.heap.size w w' := by
  obtain ⟨hb, ⟨_, he⟩ | ⟨h0, _⟩⟩ := hq
  · exact ⟨he, hb⟩
  · exact absurd h0 h
theorem allQ_is_ok {doc : JV} {xs : List IX} {w w' : World} {e : Ending} (h : allE doc xs = 0) (hq : AllQ doc xs w e w') : ∃ A c, e = .returned (.tuple #[.slice A xs.length c, .int .i64 0]) ∧ SliceR (rLB.R w' (fun _ => True)) 1 w' (fun _ => True) (xs.map (keyB doc)) (.slice A xs.length c) ∧ Below w.heap.size w w' := by
  obtain ⟨hb, ⟨h0, _⟩ | ⟨_, A, c, he, hs⟩⟩ := hq
  · exact absurd h h0
  · exact ⟨A, c, he, hs, hb⟩
theorem rows_below {w w' : World} {l : List (List UInt8)} {v : Value} (h : SliceR (rLB.R w (fun _ => True)) 1 w (fun _ => True) l v) (hb : Below w.heap.size w w') : SliceR (rLB.R w' (fun _ => True)) 1 w' (fun _ => True) l v :=
  h.imp (fun b _ hlt => ⟨hb.block b hlt, trivial⟩) (fun x _ cs hR => rLB.below hR hb)

set_option maxRecDepth 100000 in
set_option maxHeartbeats 8000000 in
theorem EntriesAll_calls (xs : List IX) (v : JV) (sv : Value) (ds : List Value) (S S' : Blocks) (w : World) (h : SliceR (rIX.R w S) 3 w S xs sv) (hv : RV w S' v ds) (hT : Tabs w) :
    Calls Tryd.prog 6 #[sv, .agg ds.toArray] w fun e w' => e = .returned (.bool true) ∧ Below w.heap.size w w' := by
  obtain ⟨i0, hi, hz0, hz1, hz2⟩ := ix_info
  have hxl := h.len_le
  obtain ⟨A, c, rfl, hrest⟩ := id h
  clear hrest
  have HW := K.mk (fun w' (hb : Below w.heap.size w w') => awake17_calls w' (hT.below hb))
  have HG := K.mk (fun w' (hb : Below w.heap.size w w') => Few_calls v ds S' w' (rV.below hv hb))
  have HFW := K.mk (fun (x : IX) cx w' (hx : rIX.R w' S x cx) => few17_calls x cx S w' hx)
  have HPL := K.mk (fun (x : IX) cx w' (hx : rIX.R w' S x cx) (h10 : x.fields.length ≤ 10) => plain17N_calls x cx S w' hx h10)
  have HXW := K.mk (fun W (hW : Below w.heap.size w W) => show SliceR (rIX.R W S) 3 W S xs (.slice A xs.length c) from h.imp (fun b hb hlt => ⟨hW.block b hlt, hb⟩) (fun x _ cs hR => rIX.below hR hW))
  have HAL := K.mk (fun (h10 : xs.length ≤ 10) W (hW : Below w.heap.size w W) => All_calls xs xs.length rfl h10 v ds A c S S' W (HXW.o W hW) (rV.below hv hW) (hT.below hW))
  have HAR := K.mk (fun (h10 : xs.length ≤ 10) mA mc W (hW : Below w.heap.size w W) (hm : SliceR (rIX.R W (fun _ => True)) 3 W (fun _ => True) xs (.slice mA xs.length mc)) => refAll_calls xs xs.length rfl h10 v ds mA mc (fun _ => True) S' W hm (rV.below hv hW) (hT.below hW))
  obtain ⟨An, cn, Ai, ci, rfl, hnm, hit, hk, hnu, ht⟩ := hv.wide
  clear h hv hnm hit hT
  generalize hn : xs.length = n at *
  have HN := K.mk hn
  clear hn
  by_cases h10 : n ≤ 10
  · have q10 : ¬ (10 : Int) < (n : Int) := by omega
    have HAL1 := K.mk (HAL.o h10)
    have HAR1 := K.mk (HAR.o h10)
    clear HAL HAR
    cases hr : fewS v
    · rw [hr] at HG
      clear hr
      go_enter Tryd.func6, Tryd.ntmps6
      go_wp2_with (first
        | (go_at_call 10; refine (HW.o _ (below_a1 _ _)).mono ?_; rintro e w1 ⟨rfl, hb1⟩; have HU := K.mk ((Blk.new _ _ _).below hb1 (by simp)); obtain ⟨cl0, cl1, cl2, cl3, cl4⟩ := HU.o.five; have HB := K.mk (below2 (below_a1 _ _) hb1); clear hb1)
        | (go_at_call 17; go_must (refine (HG.o _ HB.o).mono ?_); rintro e w3 ⟨rfl, hb3⟩; have HB3 := K.mk (below2 HB.o hb3); clear hb3)
        | (go_at_call 10; go_must (refine (HW.o _ HB3.o).mono ?_); rintro e w4 ⟨rfl, hb4⟩))
      go_ret
      exact ⟨rfl, below2 HB3.o hb4⟩
    · rw [hr] at HG
      clear hr
      go_enter Tryd.func6, Tryd.ntmps6
      go_wp2_with (first
        | (go_at_call 10; refine (HW.o _ (below_a1 _ _)).mono ?_; rintro e w1 ⟨rfl, hb1⟩; have HU := K.mk ((Blk.new w 37 [.int .i64 v.kind, .int .i64 v.num, .string v.text, .slice An v.names.length cn, .slice Ai v.items.length ci]).below hb1 (by simp)); obtain ⟨cl0, cl1, cl2, cl3, cl4⟩ := HU.o.five; have HB := K.mk (below2 (below_a1 _ _) hb1); clear hb1)
        | (go_at_call 17; go_must (refine (HG.o _ HB.o).mono ?_); rintro e w3 ⟨rfl, hb3⟩; have HB3 := K.mk (below2 HB.o hb3); have HU3 := K.mk (HU.o.below hb3 HU.o.lt); clear hb3 HB HU))
      go_loopg [5, 6] n (fun g s5 s6 wr => ∃ (k : Nat) (mv : Value), k ≤ n ∧ n - k ≤ g ∧ mv = s5 ∧ s6 = .int .i64 k ∧ K (OwnL (rIXn (w.heap.size + 1)) 30 (w.heap.size + 1) wr (xs.take k) mv) ∧ K (Below w.heap.size w wr) ∧
        K (Blk wr w.heap.size 37 [.int .i64 v.kind, .int .i64 v.num, .string v.text, .slice An v.names.length cn, .slice Ai v.items.length ci]))
      case atStart => exact ⟨0, _, Nat.zero_le _, Nat.le_refl _, rfl, rfl, ⟨by simpa using OwnL.nil _ _ _ _⟩, HB3, HU3⟩
      case round =>
        try clear HB3 HU3 cl0 cl1 cl2 cl3 cl4
        obtain ⟨k, mv, hk1, hg, rfl, rfl, HO, HB, HU⟩ := hrel
        have hsz := HU.o.lt
        have hws := HB.o.size
        rcases Nat.lt_or_ge k n with hlt | hge
        · have hlt' : (k : Int) < (n : Int) := by omega
          obtain ⟨b, o, x, xcs, hAe, hS, hbb, hx, hRx, hcx⟩ := (HXW.o wr HB.o).at k (by rw [HN.o]; exact hlt)
          subst hAe
          have HX := K.mk hx
          have HRX := K.mk hRx
          obtain ⟨xA, xc, rfl, _, _⟩ := rIX_open hRx
          obtain ⟨c0, c1, c2⟩ := hcx.three
          have HCX := K.mk hcx
          have HFE := K.mk (HFW.o x _ wr hRx)
          have HL := K.mk (show (xs.take k).length = k by rw [List.length_take, HN.o]; omega)
          have HOWN := K.mk (fun q hq => HO.o.lt q hq)
          clear hx hRx hcx
          cases hfx : fewX x
          · rw [hfx] at HFE
            clear hfx
            go_wp2_with (go_at_call 11; go_must ((refine HFE.o.mono ?_; rintro e w5 ⟨rfl, hb5⟩)))
            go_ret
            exact ⟨rfl, below2 HB.o hb5⟩
          · rw [hfx] at HFE
            have hx10 : x.fields.length ≤ 10 := by unfold fewX at hfx; simp at hfx; exact hfx.1.1
            have HPX := K.mk (fun W (hW : Below wr.heap.size wr W) => HPL.o x _ W (rIX.below HRX.o hW) hx10)
            clear hfx hx10
            go_wp2_with (first
              | (go_at_call 11; go_must ((refine HFE.o.mono ?_; rintro e w5 ⟨rfl, hb5⟩; have HB5 := K.mk hb5; have HC5 := K.mk (HCX.o.below hb5); obtain ⟨dl0, dl1, dl2⟩ := HC5.o.three; clear hb5)))
              | (go_at_call 14; go_must ((refine (HPX.o _ HB5.o).mono ?_; rintro e w6 ⟨ycs, rfl, hR6, hb6⟩; obtain ⟨yA, yc, rfl, _, _⟩ := rIX_open hR6; have HB6 := K.mk (below2 HB5.o hb6); have HR6 := K.mk (show (rIXn (w.heap.size + 1)).R w6 (fun b => some b ≠ mv.ownBlock) x [.string x.name, .slice yA x.fields.length yc, .bool x.unique] from rIX.mono hR6 (fun b hb => ⟨fun he => by have := (HOWN.o _ he.symm).2; have h1 : w5.heap.size ≤ b := hb; have := HB5.o.size; omega, by have h1 : w5.heap.size ≤ b := hb; have := HB5.o.size; omega⟩)); have HO6 := K.mk (HO.o.more HB6.o); have HU6 := K.mk (HU.o.below HB6.o hsz); have HBB6 := K.mk (below2 HB.o HB6.o); have hs6 := HBB6.o.size; have hu6 := HU6.o.lt; clear hR6 hb6)))
              | (at_builtin; go_must (refine wpList_append_L (w := w6) (rIXn (w.heap.size + 1)) rfl _ _ 56 rfl (w.heap.size + 1) 30 i0 _ 48 Tryd.underlying56 hi hz0 hz1 hz2 rfl (show 0 < 3 by decide) _ _ (by rfl) HO6.o x [.string x.name, .slice yA x.fields.length yc, .bool x.unique] HR6.o (by rfl) (fun j' u hu => (Blk.new w6 30 [.string x.name, .slice yA x.fields.length yc, .bool x.unique]).cell j' hu) (below_a1 _ _) (by have := HL.o; unfold maxLen; omega) (by have := HL.o; omega) (by omega) ?_)))
            intro v2 w7 hown hgrow hnn hat
            have HO7 := K.mk (hown.cast (take_snoc_eq _ _ _ HX.o).symm)
            have HB7 := K.mk ((HBB6.o.alloc HBB6.o.size _).grown hgrow (by have := HBB6.o.size; simp; omega) (fun q hq => by have := (HOWN.o q hq).1; omega))
            have HU7 := K.mk ((HU6.o.alloc _).grown hgrow (fun h => by have := (HOWN.o _ h.symm).1; omega))
            clear hown hgrow hnn hat
            go_wp2_with fail
            go_roundg (n - (k + 1))
            case measure => omega
            case rel => exact ⟨k + 1, _, by omega, Nat.le_refl _, rfl, by go_num, HO7, HB7, HU7⟩
        · have hlt' : ¬ (k : Int) < (n : Int) := by omega
          have hkk : k = n := by omega
          subst hkk
          have HO2 := K.mk (HO.o.cast (show _ = xs by rw [List.take_of_length_le (by rw [HN.o]; exact Nat.le_refl _)]))
          have HM := K.mk (show SliceR (rIX.R wr (fun _ => True)) 3 wr (fun _ => True) xs mv from (HO2.o.slice (by rw [HN.o]; unfold strMax; omega)).imp (fun b _ _ => ⟨rfl, trivial⟩) (fun x _ cs hR => rIX.mono hR (fun _ _ => trivial)))
          obtain ⟨mA, mc, rfl⟩ := HO2.o.form
          rw [HN.o] at HM ⊢
          clear HO HO2
          obtain ⟨cl0, cl1, cl2, cl3, cl4⟩ := HU.o.five
          have HA1 := K.mk (HAL1.o wr HB.o)
          by_cases hE : allE v xs = 0
          · have HA2 := K.mk (HA1.o.mono (fun e w' hh => allQ_is_ok hE hh))
            have HR2 := K.mk (fun W (hW : Below wr.heap.size wr W) => (HAR1.o mA mc W (below2 HB.o hW) (HM.o.imp (fun b _ hlt => ⟨hW.block b hlt, trivial⟩) (fun x _ cs hR => rIX.below hR hW))).mono (fun e w' hh => allQ_is_ok hE hh))
            rw [HN.o] at HA2 HR2
            clear hE HA1
            go_wp2_with (first
              | (go_at_call 28; go_must ((refine HA2.o.mono ?_; rintro e w5 ⟨aA, ac, rfl, hs5, hb5⟩; have HS5 := K.mk hs5; have HB5 := K.mk hb5; have HU5 := K.mk (HU.o.below hb5 hsz); obtain ⟨dl0, dl1, dl2, dl3, dl4⟩ := HU5.o.five; clear hb5 hs5)))
              | (go_at_call 29; go_must ((refine (HR2.o _ HB5.o).mono ?_; rintro e w6 ⟨bA, bc, rfl, hs6, hb6⟩; have HS6 := K.mk hs6; have HS5' := K.mk (rows_below HS5.o hb6); have HB6 := K.mk (below2 HB.o (below2 HB5.o hb6)); clear hb6 hs6))))
            go_loopg [11] k (fun g s11 wr => ∃ j : Nat, j ≤ k ∧ k - j ≤ g ∧ s11 = .int .i64 j ∧ K (SliceR (rLB.R wr (fun _ => True)) 1 wr (fun _ => True) (xs.map (keyB v)) (.slice aA k ac)) ∧ K (SliceR (rLB.R wr (fun _ => True)) 1 wr (fun _ => True) (xs.map (keyB v)) (.slice bA k bc)) ∧ K (Below w.heap.size w wr))
            case atStart => exact ⟨0, Nat.zero_le _, Nat.le_refl _, rfl, HS5', HS6, HB6⟩
            case round =>
              clear HS5 HS5' HS6 HB5 HB6 HU5 dl0 dl1 dl2 dl3 dl4 HB HU HM cl0 cl1 cl2 cl3 cl4 HA2 HR2
              obtain ⟨j, hj1, hgj, rfl, HSA, HSB, HB⟩ := hrel
              rcases Nat.lt_or_ge j k with hjl | hjg
              · have hjl' : (j : Int) < (k : Int) := by omega
                have hj0 : (0 : Int) ≤ (j : Int) := by omega
                have hml : j < (xs.map (keyB v)).length := by rw [List.length_map, HN.o]; exact hjl
                obtain ⟨b1, o1, y, ycs, rfl, _, hb1, hy, ⟨yv, rfl, hyR⟩, hc1⟩ := HSA.o.at1 j hml
                obtain ⟨b2, o2, z, zcs, rfl, _, hb2, hz, ⟨zv, rfl, hzR⟩, hc2⟩ := HSB.o.at1 j hml
                have hyz : y = z := by rw [hy] at hz; injection hz
                subst hyz
                obtain ⟨yA, yc, rfl, hy1⟩ := id hyR
                obtain ⟨zA, zc, rfl, hz1⟩ := id hzR
                clear hy1 hz1
                have HC1 := K.mk hc1
                have HC2 := K.mk hc2
                have HSM := K.mk (fun W (hW : Below wr.heap.size wr W) => SameB_calls y y yA zA yc zc (fun _ => True) (fun _ => True) W (hyR.imp (fun b _ hlt => ⟨hW.block b hlt, trivial⟩) (fun _ _ _ h => h)) (hzR.imp (fun b _ hlt => ⟨hW.block b hlt, trivial⟩) (fun _ _ _ h => h)))
                simp only [decide_true] at HSM
                have g1 := fun W (hW : Below wr.heap.size wr W) => (HC1.o.below hW).one
                have g2 := fun W (hW : Below wr.heap.size wr W) => (HC2.o.below hW).one
                clear hml hy hz hyR hzR hc1 hc2
                go_wp2_with fail
                go_region_held3 (fun w' => Below wr.heap.size wr w') (with_reducible (first | assumption | refine Below.drew (Below.refl _ _)))
                  (first | (go_at_call 27; refine (HSM.o _ (by assumption)).mono ?_; rintro e w8 ⟨rfl, hb8⟩; have HS8 : Below wr.heap.size wr w8 := below2 (by assumption) hb8; have HB8 := K.mk HS8; clear hb8))
                have HSA8 := K.mk (rows_below HSA.o HB8.o)
                have HSB8 := K.mk (rows_below HSB.o HB8.o)
                clear g1 g2
                go_wp2_with fail
                go_roundg (k - (j + 1))
                case measure => omega
                case rel => exact ⟨j + 1, by omega, Nat.le_refl _, by go_num, HSA8, HSB8, ⟨below2 HB.o HB8.o⟩⟩
              · have hjl' : ¬ (j : Int) < (k : Int) := by omega
                go_wp2_with fail
                go_ret
                exact ⟨rfl, HB.o⟩
          · have HA2 := K.mk (HA1.o.mono (fun e w' hh => allQ_is_err hE hh))
            have HR2 := K.mk (fun W (hW : Below wr.heap.size wr W) => (HAR1.o mA mc W (below2 HB.o hW) (HM.o.imp (fun b _ hlt => ⟨hW.block b hlt, trivial⟩) (fun x _ cs hR => rIX.below hR hW))).mono (fun e w' hh => allQ_is_err hE hh))
            clear hE HA1
            go_wp2_with (first
              | (go_at_call 28; go_must ((refine HA2.o.mono ?_; rintro e w5 ⟨rfl, hb5⟩; have HB5 := K.mk hb5; have HU5 := K.mk (HU.o.below hb5 hsz); obtain ⟨dl0, dl1, dl2, dl3, dl4⟩ := HU5.o.five; clear hb5)))
              | (go_at_call 29; go_must ((refine (HR2.o _ HB5.o).mono ?_; rintro e w6 ⟨rfl, hb6⟩; have HB6 := K.mk (below2 HB.o (below2 HB5.o hb6)); clear hb6))))
            go_loopg [11] 0 (fun g s11 wr => s11 = .int .i64 0 ∧ K (Below w.heap.size w wr))
            case atStart => exact ⟨rfl, HB6⟩
            case round =>
              clear HB5 HB6 HU5 dl0 dl1 dl2 dl3 dl4 HB HU HM cl0 cl1 cl2 cl3 cl4 HA2 HR2
              obtain ⟨rfl, HB⟩ := hrel
              go_wp2_with fail
              go_ret
              exact ⟨rfl, HB.o⟩
  · have q10 : (10 : Int) < (n : Int) := by omega
    clear HAL HAR
    go_enter Tryd.func6, Tryd.ntmps6
    go_wp2_with (first
      | (go_at_call 10; refine (HW.o _ (below_a1 _ _)).mono ?_; rintro e w1 ⟨rfl, hb1⟩; have HB := K.mk (below2 (below_a1 _ _) hb1); clear hb1)
      | (go_at_call 10; go_must (refine (HW.o _ HB.o).mono ?_); rintro e w4 ⟨rfl, hb4⟩))
    go_ret
    exact ⟨rfl, below2 HB.o hb4⟩
end Go.Proofs.YtgcbkecpplhknaaDoor
