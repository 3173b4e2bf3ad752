/- Walks: a document's entry, of the reference. -/
import Derived.Test.YtgcbkecpplhknaaDoorEKeyF
import Derived.Test.YtgcbkecpplhknaaDoorEKeyG
import Derived.Test.YtgcbkecpplhknaaDoorEFormR
import Derived.Test.YtgcbkecpplhknaaDoorEKeyO
import Derived.Deep.RegionHeld3
import Derived.Deep.DrawnRows


import Derived.WalkKit
import Derived.Deep.QuietTactic
import Derived.BigQuiet
import Derived.Outline
import Derived.Deep.DeepMust
import Derived.Deep.CutBlock
import Derived.Deep.DeepCutAuto
import Derived.Deep.RegionWith
import Derived.WalkSpells
import Derived.WalkLawsBesides
import Derived.Test.YtgcbkecpplhknaaDoorMu
import Derived.Test.YtgcbkecpplhknaaDoorProg
set_option linter.unusedVariables false
set_option linter.unusedSimpArgs false
namespace Go.Proofs.YtgcbkecpplhknaaDoor
open Go.RowKit Go.Mu
attribute [local go_sem ↓] Go.wp_at_zero Go.wp_at_succ

set_option maxRecDepth 100000 in
set_option maxHeartbeats 4000000 in
theorem refKey_bad (x : IX) (doc : JV) (cx cd : List Value) (S S' : Blocks) (w : World) (h : rIX.R w S x cx) (hd : RV w S' doc cd) (hT : Tabs w) (hbad : formX x = false ∨ formS 6 doc = false ∨ doc.kind ≠ 6) : Calls Tryd.prog 26 #[.agg cx.toArray, .agg cd.toArray] w (KeyXQ x doc w) := by
  have HQ := K.mk (keyR_form hbad)
  have HF := K.mk (fun W (hW : Below w.heap.size w W) => refFormed_calls x cx S W (rIX.below h hW) (hT.below hW))
  have HD := K.mk (fun W (hW : Below w.heap.size w W) => ref_Formed_calls doc cd S' W (rV.below hd hW))
  obtain ⟨A, c, rfl, hf, hns⟩ := rIX_open h
  obtain ⟨An, cn, Ai, ci, rfl, hnm, hit, hk, hn, ht⟩ := hd.wide
  clear h hf hd hnm hit hT
  cases hfx : formX x with
  | false =>
    rw [hfx] at HF
    clear hfx hbad
    go_enter Tryd.func26, Tryd.ntmps26
    go_wp2_with (go_at_call 13; go_must ((refine (HF.o _ (below_a2 _ _ _)).mono ?_; rintro e w1 ⟨rfl, hb1⟩; have HB := K.mk (below2 (below_a2 _ _ _) hb1); have HV := K.mk ((Blk.new2 _ _ _ _).below hb1 (by simp)); have HX := K.mk ((Blk.new1 _ _ _ _).below hb1 (by simp; omega)); obtain ⟨v0, v1, v2, v3, v4⟩ := HV.o.five; clear hb1)))
    go_ret3
    exact keyXQ_0 HQ.o HB.o
  | true =>
    rw [hfx] at HF
    cases hfd : formS 6 doc with
    | false =>
      rw [hfd] at HD
      clear hfx hfd hbad
      go_enter Tryd.func26, Tryd.ntmps26
      go_wp2_with (first | (go_at_call 13; go_must ((refine (HF.o _ (below_a2 _ _ _)).mono ?_; rintro e w1 ⟨rfl, hb1⟩; have HB := K.mk (below2 (below_a2 _ _ _) hb1); have HV := K.mk ((Blk.new2 _ _ _ _).below hb1 (by simp)); have HX := K.mk ((Blk.new1 _ _ _ _).below hb1 (by simp; omega)); obtain ⟨v0, v1, v2, v3, v4⟩ := HV.o.five; clear hb1))) | (go_at_call 54; go_must ((refine (HD.o _ HB.o).mono ?_; rintro e w2 ⟨rfl, hb2⟩; have HB2 := K.mk (below2 HB.o hb2); have HV2 := K.mk (HV.o.below hb2 HV.o.lt); have HX2 := K.mk (HX.o.below hb2 HX.o.lt); have q0 := HV2.o.cell 0 rfl; clear hb2))))
      go_ret3
      exact keyXQ_0 HQ.o HB2.o
    | true =>
      rw [hfd] at HD
      have hk6 : (doc.kind != 6) = true := bne_tt (by rcases hbad with h | h | h <;> simp_all)
      clear hfx hfd hbad
      go_enter Tryd.func26, Tryd.ntmps26
      go_wp2_with (first | (go_at_call 13; go_must ((refine (HF.o _ (below_a2 _ _ _)).mono ?_; rintro e w1 ⟨rfl, hb1⟩; have HB := K.mk (below2 (below_a2 _ _ _) hb1); have HV := K.mk ((Blk.new2 _ _ _ _).below hb1 (by simp)); have HX := K.mk ((Blk.new1 _ _ _ _).below hb1 (by simp; omega)); obtain ⟨v0, v1, v2, v3, v4⟩ := HV.o.five; clear hb1))) | (go_at_call 54; go_must ((refine (HD.o _ HB.o).mono ?_; rintro e w2 ⟨rfl, hb2⟩; have HB2 := K.mk (below2 HB.o hb2); have HV2 := K.mk (HV.o.below hb2 HV.o.lt); have HX2 := K.mk (HX.o.below hb2 HX.o.lt); have q0 := HV2.o.cell 0 rfl; clear hb2))))
      go_ret3
      exact keyXQ_0 HQ.o HB2.o

theorem heap_res2 {w : World} {g b : Nat} (h : b ≠ g) (u0 u1 u2 u3 u4 : Value) : (((((w.setCell ⟨g, 0, none⟩ u0).setCell ⟨g, 1, none⟩ u1).setCell ⟨g, 2, none⟩ u2).setCell ⟨g, 3, none⟩ u3).setCell ⟨g, 4, none⟩ u4).heap[b]? = w.heap[b]? := by
  rw [Below.heap_setCell _ _ _ _ h, Below.heap_setCell _ _ _ _ h, Below.heap_setCell _ _ _ _ h, Below.heap_setCell _ _ _ _ h, Below.heap_setCell _ _ _ _ h]
theorem part_true (v : JV) : partS v true = (keyS 6 v).map turnB := rfl
theorem part_false (v : JV) : partS v false = keyS 6 v := rfl
theorem part_take {v : JV} {d : Bool} {j : Nat} {x : UInt8} (h : (keyS 6 v)[j]? = some x) : (partS v d).take (j + 1) = (partS v d).take j ++ [if d = true then turnB x else x] := by
  cases d
  · rw [part_false, List.take_add_one, h]; simp
  · rw [part_true, List.take_add_one, List.getElem?_map, h]; simp
theorem part_take_t {v : JV} {d : Bool} {j : Nat} {x : UInt8} (hd : d = true) (h : (keyS 6 v)[j]? = some x) : (partS v d).take (j + 1) = (partS v d).take j ++ [turnB x] := by rw [part_take h, if_pos hd]
theorem part_take_f {v : JV} {d : Bool} {j : Nat} {x : UInt8} (hd : d = false) (h : (keyS 6 v)[j]? = some x) : (partS v d).take (j + 1) = (partS v d).take j ++ [x] := by rw [part_take h, if_neg (by rw [hd]; decide)]
set_option maxRecDepth 100000 in
set_option maxHeartbeats 8000000 in
theorem refKey_good (x : IX) (doc : JV) (cx cd : List Value) (S S' : Blocks) (w : World) (h : rIX.R w S x cx) (hd : RV w S' doc cd) (hT : Tabs w) (hfx : formX x = true) (hfd : formS 6 doc = true) (hk6 : doc.kind = 6) : Calls Tryd.prog 26 #[.agg cx.toArray, .agg cd.toArray] w (KeyXQ x doc w) := by
  have HQ := K.mk (And.intro hfx (And.intro hfd hk6))
  obtain ⟨i0, hi, hz0, hz1, hz2⟩ := byte_info
  have HF := K.mk (fun W (hW : Below w.heap.size w W) => refFormed_calls x cx S W (rIX.below h hW) (hT.below hW))
  have HD := K.mk (fun W (hW : Below w.heap.size w W) => ref_Formed_calls doc cd S' W (rV.below hd hW))
  rw [hfx] at HF
  rw [hfd] at HD
  have hl3 := (formX_len hfx).1
  have HG := K.mk (fun (p : ByteArray) (hp : p.size ≤ strMax) W (hW : Below w.heap.size w W) => refGet_calls doc p hp cd (fun b => b < w.heap.size) W (rV.mono (rV.below (rV.bound hd) hW) (fun _ h => h.2)) (hT.below hW))
  have hq6 : (doc.kind != 6) = false := bne_ff hk6
  obtain ⟨A, c, rfl, hf, hns⟩ := rIX_open h
  have HFS := K.mk hf
  obtain ⟨An, cn, Ai, ci, rfl, hnm, hit, hk, hn, ht⟩ := hd.wide
  clear h hf hd hnm hit hT hfx hfd hk6
  generalize hfl : x.fields.length = n at *
  have HFL := K.mk hfl
  clear hfl
  go_enter Tryd.func26, Tryd.ntmps26
  go_wp2_with (first | (go_at_call 13; go_must ((refine (HF.o _ (below_a2 _ _ _)).mono ?_; rintro e w1 ⟨rfl, hb1⟩; have HB := K.mk (below2 (below_a2 _ _ _) hb1); have HV := K.mk ((Blk.new2 _ _ _ _).below hb1 (by simp)); have HX := K.mk ((Blk.new1 _ _ _ _).below hb1 (by simp; omega)); obtain ⟨v0, v1, v2, v3, v4⟩ := HV.o.five; clear hb1))) | (go_at_call 54; go_must ((refine (HD.o _ HB.o).mono ?_; rintro e w2 ⟨rfl, hb2⟩; have HB2 := K.mk (below2 HB.o hb2); have HV2 := K.mk (HV.o.below hb2 HV.o.lt); have HX2 := K.mk (HX.o.below hb2 HX.o.lt); have q0 := HV2.o.cell 0 rfl; clear hb2))))
  go_loopg [7, 8] n (fun g s7 s8 wr => ∃ (k : Nat) (l : List (JV × Bool)) (sv : Value), k ≤ n ∧ n - k ≤ g ∧ sv = s7 ∧ s8 = .int .i64 k ∧ K (gotS doc (x.fields.take k) = some l) ∧ K (OwnL rByte 5 (w.heap.size + 1 + 1) wr (compS l) sv) ∧ K (Below w.heap.size w wr) ∧
    K (Blk wr w.heap.size 30 [.string x.name, .slice A n c, .bool x.unique]) ∧ K (Blk wr (w.heap.size + 1) 37 [.int .i64 doc.kind, .int .i64 doc.num, .string doc.text, .slice An doc.names.length cn, .slice Ai doc.items.length ci]))
  case atStart => exact ⟨0, [], _, Nat.zero_le _, Nat.le_refl _, rfl, rfl, ⟨by simp [gotS]⟩, ⟨OwnL.nil _ _ _ _⟩, HB2, HX2, HV2⟩
  case round =>
    clear HB HV HX HB2 HV2 HX2 v0 v1 v2 v3 v4 q0
    obtain ⟨k, l, sv, hk1, hg, rfl, rfl, HGT, HO, HB, HX, HV⟩ := hrel
    have x1 := HX.o.cell 1 rfl
    have hxl := HX.o.lt
    have hvl := HV.o.lt
    rcases Nat.lt_or_ge k n with hlt | hge
    · have hlt' : (k : Int) < (n : Int) := by omega
      have hk0 : (0 : Int) ≤ (k : Int) := by omega
      obtain ⟨b, o, f, fcs, rfl, hS, hbb, hfx, hRf, hcf⟩ := HFS.o.at k (by rw [HFL.o]; exact hlt)
      obtain ⟨rfl, hfs⟩ := rF_open hRf
      have HC := K.mk (fun W (hW : Below wr.heap.size wr W) => HG.o f.path hfs W (below2 HB.o hW))
      have g0 := fun W (hW : Below wr.heap.size wr W) => (HV.o.below hW HV.o.lt).cell 0 rfl
      have g1 := fun W (hW : Below wr.heap.size wr W) => (HV.o.below hW HV.o.lt).cell 1 rfl
      have g2 := fun W (hW : Below wr.heap.size wr W) => (HV.o.below hW HV.o.lt).cell 2 rfl
      have g3 := fun W (hW : Below wr.heap.size wr W) => (HV.o.below hW HV.o.lt).cell 3 rfl
      have g4 := fun W (hW : Below wr.heap.size wr W) => (HV.o.below hW HV.o.lt).cell 4 rfl
      have gx := fun W (hW : Below wr.heap.size wr W) => (HX.o.below hW HX.o.lt).cell 1 rfl
      have gp := fun W (hW : Below wr.heap.size wr W) => ((hcf.below HB.o).below hW).two.1
      have HCF := K.mk (hcf.below HB.o)
      have HFX := K.mk hfx
      clear hcf hfx hRf
      cases hgs : getS doc f.path with
      | none =>
        have HGN := K.mk (fun W (hW : Below wr.heap.size wr W) => (HC.o W hW).mono (fun e w' hh => getQ_no hgs hh))
        have HNO := K.mk (keyR_none HQ.o.1 HQ.o.2.1 HQ.o.2.2 (got_none (List.mem_of_getElem? HFX.o) hgs))
        clear hgs
        go_wp2_with fail
        go_region_held3 (fun w' => Below wr.heap.size wr w') (with_reducible (first | assumption | refine Below.drew (Below.refl _ _) | refine (below_a1 _ _).drew | apply below2 HS5 (below_a1 _ _) | refine below_res HS5 (Nat.le_refl _) _ _ _ _ _))
          (first
            | (go_at_call 55; with_reducible refine (HGN.o (wr.alloc (.cells #[.int .i64 0, .int .i64 0, .string ⟨#[]⟩, .slice none 0 0, .slice none 0 0] 37)).drew (below_a1 _ _).drew).mono ?_; rintro e w5 ⟨rfl, hb5⟩; have HS5 : Below wr.heap.size wr w5 := below2 (below_a1 _ _).drew hb5; have HZ := K.mk ((Blk.new wr 37 [.int .i64 0, .int .i64 0, .string ⟨#[]⟩, .slice none 0 0, .slice none 0 0]).drew.below hb5 (by simp)); obtain ⟨z0, z1, z2, z3, z4⟩ := HZ.o.five; have e0 := HZ.o.frozen 0; have e1 := HZ.o.frozen 1; have e2 := HZ.o.frozen 2; have e3 := HZ.o.frozen 3; have e4 := HZ.o.frozen 4; skip)
            | (go_at_call 55; with_reducible refine (HGN.o wr.drew (Below.refl _ _).drew).mono ?_; rintro e w5 ⟨rfl, hb5⟩; have HS5 : Below wr.heap.size wr w5 := below2 (Below.refl _ _).drew hb5; skip))
        all_goals
          go_wp2_with fail
          go_ret3
          refine keyXQ_1 HNO.o (below2 HB.o ?_)
          with_reducible (first | apply below2 HS5 (below_a1 _ _) | refine below_res HS5 (Nat.le_refl _) _ _ _ _ _)
      | some v =>
        have HGN := K.mk (fun W (hW : Below wr.heap.size wr W) => (HC.o W hW).mono (fun e w' hh => getQ_yes hgs hh))
        have HGV := K.mk hgs
        have HFV := K.mk (get_form hgs)
        clear hgs
        go_wp2_with fail
        go_region_held3 (fun w' => Below wr.heap.size wr w') (with_reducible (first | assumption | refine Below.drew (Below.refl _ _) | refine (below_a1 _ _).drew | apply below2 HS5 (below_a1 _ _) | refine below_res HS5 (Nat.le_refl _) _ _ _ _ _))
          (first
            | (go_at_call 55; with_reducible refine (HGN.o (wr.alloc (.cells #[.int .i64 0, .int .i64 0, .string ⟨#[]⟩, .slice none 0 0, .slice none 0 0] 37)).drew (below_a1 _ _).drew).mono ?_; rintro e w5 ⟨ycs, rfl, hR5, hb5⟩; obtain ⟨yAn, ycn, yA, yc, rfl, _⟩ := hR5.wide; have HR5 := K.mk hR5; clear hR5; have HS5 : Below wr.heap.size wr w5 := below2 (below_a1 _ _).drew hb5; have HZ := K.mk ((Blk.new wr 37 [.int .i64 0, .int .i64 0, .string ⟨#[]⟩, .slice none 0 0, .slice none 0 0]).drew.below hb5 (by simp)); obtain ⟨z0, z1, z2, z3, z4⟩ := HZ.o.five; have e0 := HZ.o.frozen 0; have e1 := HZ.o.frozen 1; have e2 := HZ.o.frozen 2; have e3 := HZ.o.frozen 3; have e4 := HZ.o.frozen 4; skip)
            | (go_at_call 55; with_reducible refine (HGN.o wr.drew (Below.refl _ _).drew).mono ?_; rintro e w5 ⟨ycs, rfl, hR5, hb5⟩; obtain ⟨yAn, ycn, yA, yc, rfl, _⟩ := hR5.wide; have HR5 := K.mk hR5; clear hR5; have HS5 : Below wr.heap.size wr w5 := below2 (Below.refl _ _).drew hb5; skip))
        · have HVB := K.mk (show Blk (w5.alloc (.cells #[.int .i64 v.kind, .int .i64 v.num, .string v.text, .slice yAn v.names.length ycn, .slice yA v.items.length yc] 37)) (w5.heap.size) 37 [.int .i64 v.kind, .int .i64 v.num, .string v.text, .slice yAn v.names.length ycn, .slice yA v.items.length yc] from Blk.new _ _ _)
          have HBW := K.mk (show Below wr.heap.size wr (w5.alloc (.cells #[.int .i64 v.kind, .int .i64 v.num, .string v.text, .slice yAn v.names.length ycn, .slice yA v.items.length yc] 37)) from below2 HS5 (below_a1 _ _))
          have HRW := K.mk (show RV (w5.alloc (.cells #[.int .i64 v.kind, .int .i64 v.num, .string v.text, .slice yAn v.names.length ycn, .slice yA v.items.length yc] 37)) (fun b => b < w.heap.size) v [.int .i64 v.kind, .int .i64 v.num, .string v.text, .slice yAn v.names.length ycn, .slice yA v.items.length yc] from rV.below HR5.o (below_a1 _ _))
          clear HS5
          generalize hW : (w5.alloc (.cells #[.int .i64 v.kind, .int .i64 v.num, .string v.text, .slice yAn v.names.length ycn, .slice yA v.items.length yc] 37)) = W at *
          clear hW
          obtain ⟨p0, p1, p2, p3, p4⟩ := HVB.o.five
          clear HVB
          have HOw := K.mk (HO.o.more HBW.o)
          have HXw := K.mk (HX.o.below HBW.o hxl)
          have HVw := K.mk (HV.o.below HBW.o hvl)
          have HCFw := K.mk (HCF.o.below HBW.o)
          have HPL := K.mk (refPlain_calls 6 (Nat.le_refl _) v _ _ W HRW.o HFV.o)
          have HBww := K.mk (below2 HB.o HBW.o)
          have HOWN := K.mk (fun q hq => HO.o.lt q hq)
          go_wp2_with (go_at_call 56; go_must ((refine HPL.o.mono ?_; rintro e w6 ⟨A6, c6, rfl, HY, hb6⟩; have HY6 := K.mk ((ownL_sliceS HY (by have := key_small (Nat.le_refl _) HFV.o; unfold strMax; omega) (Nat.le_refl _)).imp (R' := rByte.R w6 (fun _ => True)) (S' := fun b => W.heap.size ≤ b ∧ b < w6.heap.size) (fun b hb hlt => ⟨rfl, hb, hlt⟩) (fun _ _ _ h => h)); have HO6 := K.mk (HOw.o.more hb6); have HX6 := K.mk (HXw.o.below hb6 HXw.o.lt); have HV6 := K.mk (HVw.o.below hb6 HVw.o.lt); have HB6 := K.mk (below2 HBww.o hb6); have HCF6 := K.mk (HCFw.o.below hb6); have hs6 := hb6.size; clear HY hb6)))
          generalize hp : (keyS 6 v).length = p at *
          have HP := K.mk hp
          have hkl : p ≤ 30000000000 := by rw [← hp]; exact key_small (Nat.le_refl _) HFV.o
          have HKL := K.mk hkl
          clear hp
          have hWs := HBW.o.size
          go_loopg [7, 12] p (fun g s7' s12 wr => ∃ j : Nat, j ≤ p ∧ p - j ≤ g ∧ s12 = .int .i64 j ∧ K (OwnL rByte 5 (w.heap.size + 1 + 1) wr (compS l ++ (partS v f.down).take j) s7') ∧ K (w6.grownBy wr sv.ownBlock) ∧ K (AtOwn sv w6.heap.size s7'))
          case atStart => exact ⟨0, Nat.zero_le _, Nat.le_refl _, rfl, ⟨HO6.o.cast (by simp)⟩, ⟨grown_refl _ _⟩, ⟨AtOwn.refl _ _⟩⟩
          case round =>
            obtain ⟨j, hj1, hgj, rfl, HOq, HGq, HAq⟩ := hrel
            have hwq := HGq.o.size
            have hnx : some w.heap.size ≠ sv.ownBlock := fun h => by have := (HOWN.o _ h.symm).1; omega
            have hnv : some (w.heap.size + 1) ≠ sv.ownBlock := fun h => by have := (HOWN.o _ h.symm).1; omega
            have hnb : some b ≠ sv.ownBlock := fun h => by have := (HOWN.o _ h.symm).1; omega
            have HXq := K.mk (HX6.o.grown HGq.o hnx)
            have HVq := K.mk (HV6.o.grown HGq.o hnv)
            have HCFq := K.mk (HCF6.o.frame (HGq.o.block b (by have := HB6.o.size; omega) hnb))
            have x1q := HXq.o.cell 1 rfl
            have cdq := HCFq.o.two.2
            have HLq := K.mk (show (compS l ++ (partS v f.down).take j).length ≤ 300000000000 by
              have h1 := comp_len l (got_form HGT.o)
              have h2 := got_len HGT.o
              have h3 : (x.fields.take k).length ≤ 3 := by rw [List.length_take, HFL.o]; omega
              have h4 : l.length * 30000000000 ≤ 3 * 30000000000 := Nat.mul_le_mul_right _ (by omega)
              have h5 := HKL.o
              rw [List.length_append, List.length_take]; omega)
            rcases Nat.lt_or_ge j p with hjl | hjg
            · have hjl' : (j : Int) < (p : Int) := by omega
              obtain ⟨by_, oy, y, ycs', rfl, hSy, hby, hy, rfl, hcy⟩ := HY6.o.at1 j (by rw [HP.o]; exact hjl)
              have cy := (hcy.frame (HGq.o.block by_ hby (fun h => by have := (HOWN.o _ h.symm).2; omega))).one
              have HPTT := K.mk (fun hd => part_take_t (d := f.down) hd hy)
              have HPTF := K.mk (fun hd => part_take_f (d := f.down) hd hy)
              have HTI := K.mk (turnB_int y)
              have hy255 := y.toNat_lt
              clear hy hcy
              have hd2 : f.down = true ∨ f.down = false := by cases f.down <;> simp
              rcases hd2 with hd | hd
              · rw [hd] at cdq
                have HDD := K.mk hd
                have HPTX := K.mk (HPTT.o hd)
                clear hd
                go_wp2_with (at_builtin; go_must (refine wpList_append_L (w := wr) rByte rfl _ _ 50 rfl (w.heap.size + 1 + 1) 5 i0 (.int .u8 0) 1 Tryd.underlying50 hi hz0 hz1 hz2 rfl (by decide) _ _ (by rfl) HOq.o (turnB y) [.int .u8 (255 - (y.toNat : Int))] (by show _ = _; rw [HTI.o]) (by rfl) (fun j' u hu => (Blk.new wr 5 [.int .u8 (255 - (y.toNat : Int))]).cell j' hu) (below_a1 _ _) (by have := HLq.o; unfold maxLen; omega) (by have := HLq.o; omega) (by omega) ?_))
                intro v2 w8 hown' hgrow hnn hat
                have HO8 := K.mk (hown'.cast (show _ = compS l ++ (partS v f.down).take (j + 1) by rw [HPTX.o] <;> simp))
                have HG8 := K.mk (grown_step (grown_alloc HGq.o _) hgrow HAq.o (Nat.le_refl _))
                have HA8 := K.mk (HAq.o.step hat (by first | omega | (simp; omega)))
                clear hown' hgrow hnn hat
                go_wp2_with fail
                go_roundg (p - (j + 1))
                case measure => omega
                case rel => exact ⟨j + 1, by omega, Nat.le_refl _, by go_num, HO8, HG8, HA8⟩
              · rw [hd] at cdq
                have HDD := K.mk hd
                have HPTX := K.mk (HPTF.o hd)
                clear hd
                go_wp2_with (at_builtin; go_must (refine wpList_append_L (w := wr) rByte rfl _ _ 50 rfl (w.heap.size + 1 + 1) 5 i0 (.int .u8 0) 1 Tryd.underlying50 hi hz0 hz1 hz2 rfl (by decide) _ _ (by rfl) HOq.o (y) [.int .u8 (y.toNat : Int)] (show rByte.R _ _ _ _ from rfl) (by rfl) (fun j' u hu => (Blk.new wr 5 [.int .u8 (y.toNat : Int)]).cell j' hu) (below_a1 _ _) (by have := HLq.o; unfold maxLen; omega) (by have := HLq.o; omega) (by omega) ?_))
                intro v2 w8 hown' hgrow hnn hat
                have HO8 := K.mk (hown'.cast (show _ = compS l ++ (partS v f.down).take (j + 1) by rw [HPTX.o] <;> simp))
                have HG8 := K.mk (grown_step (grown_alloc HGq.o _) hgrow HAq.o (Nat.le_refl _))
                have HA8 := K.mk (HAq.o.step hat (by first | omega | (simp; omega)))
                clear hown' hgrow hnn hat
                go_wp2_with fail
                go_roundg (p - (j + 1))
                case measure => omega
                case rel => exact ⟨j + 1, by omega, Nat.le_refl _, by go_num, HO8, HG8, HA8⟩
            · have hjl' : ¬ (j : Int) < (p : Int) := by omega
              have HFIN := K.mk (HOq.o.cast (show _ = compS (l ++ [(v, f.down)]) by
                have h1 : (partS v f.down).length ≤ j := by
                  have : (partS v f.down).length = p := by
                    cases f.down
                    · rw [part_false, HP.o]
                    · rw [part_true, List.length_map, HP.o]
                  omega
                rw [List.take_of_length_le h1, comp_append, comp_one]))
              have HGT2 := K.mk (got_snoc HFX.o HGT.o HGV.o)
              have HBq := K.mk (HB6.o.grown HGq.o (by have := HB6.o.size; omega) (fun q hq => by have := (HOWN.o _ hq).1; omega))
              go_wp2_with fail
              go_roundg (n - (k + 1))
              case measure => omega
              case rel => exact ⟨k + 1, l ++ [(v, f.down)], _, by omega, Nat.le_refl _, rfl, by go_num, HGT2, HFIN, HBq, HXq, HVq⟩
        · have HVB := K.mk (show Blk (((((w5.setCell ⟨wr.heap.size, 0, none⟩ (.int .i64 v.kind)).setCell ⟨wr.heap.size, 1, none⟩ (.int .i64 v.num)).setCell ⟨wr.heap.size, 2, none⟩ (.string v.text)).setCell ⟨wr.heap.size, 3, none⟩ (.slice yAn v.names.length ycn)).setCell ⟨wr.heap.size, 4, none⟩ (.slice yA v.items.length yc)) (wr.heap.size) 37 [.int .i64 v.kind, .int .i64 v.num, .string v.text, .slice yAn v.names.length ycn, .slice yA v.items.length yc] from ((((HZ.o.set 0 _).set 1 _).set 2 _).set 3 _).set 4 _)
          have HBW := K.mk (show Below wr.heap.size wr (((((w5.setCell ⟨wr.heap.size, 0, none⟩ (.int .i64 v.kind)).setCell ⟨wr.heap.size, 1, none⟩ (.int .i64 v.num)).setCell ⟨wr.heap.size, 2, none⟩ (.string v.text)).setCell ⟨wr.heap.size, 3, none⟩ (.slice yAn v.names.length ycn)).setCell ⟨wr.heap.size, 4, none⟩ (.slice yA v.items.length yc)) from below_res HS5 (Nat.le_refl _) _ _ _ _ _)
          have HRW := K.mk (show RV (((((w5.setCell ⟨wr.heap.size, 0, none⟩ (.int .i64 v.kind)).setCell ⟨wr.heap.size, 1, none⟩ (.int .i64 v.num)).setCell ⟨wr.heap.size, 2, none⟩ (.string v.text)).setCell ⟨wr.heap.size, 3, none⟩ (.slice yAn v.names.length ycn)).setCell ⟨wr.heap.size, 4, none⟩ (.slice yA v.items.length yc)) (fun b => b < w.heap.size) v [.int .i64 v.kind, .int .i64 v.num, .string v.text, .slice yAn v.names.length ycn, .slice yA v.items.length yc] from RV.step (fun b hb _ => ⟨heap_res2 (by have := HB.o.size; omega) _ _ _ _ _, hb⟩) _ _ HR5.o)
          clear HS5
          generalize hW : (((((w5.setCell ⟨wr.heap.size, 0, none⟩ (.int .i64 v.kind)).setCell ⟨wr.heap.size, 1, none⟩ (.int .i64 v.num)).setCell ⟨wr.heap.size, 2, none⟩ (.string v.text)).setCell ⟨wr.heap.size, 3, none⟩ (.slice yAn v.names.length ycn)).setCell ⟨wr.heap.size, 4, none⟩ (.slice yA v.items.length yc)) = W at *
          clear hW
          obtain ⟨p0, p1, p2, p3, p4⟩ := HVB.o.five
          clear HVB
          clear HZ z0 z1 z2 z3 z4 e0 e1 e2 e3 e4
          have HOw := K.mk (HO.o.more HBW.o)
          have HXw := K.mk (HX.o.below HBW.o hxl)
          have HVw := K.mk (HV.o.below HBW.o hvl)
          have HCFw := K.mk (HCF.o.below HBW.o)
          have HPL := K.mk (refPlain_calls 6 (Nat.le_refl _) v _ _ W HRW.o HFV.o)
          have HBww := K.mk (below2 HB.o HBW.o)
          have HOWN := K.mk (fun q hq => HO.o.lt q hq)
          go_wp2_with (go_at_call 56; go_must ((refine HPL.o.mono ?_; rintro e w6 ⟨A6, c6, rfl, HY, hb6⟩; have HY6 := K.mk ((ownL_sliceS HY (by have := key_small (Nat.le_refl _) HFV.o; unfold strMax; omega) (Nat.le_refl _)).imp (R' := rByte.R w6 (fun _ => True)) (S' := fun b => W.heap.size ≤ b ∧ b < w6.heap.size) (fun b hb hlt => ⟨rfl, hb, hlt⟩) (fun _ _ _ h => h)); have HO6 := K.mk (HOw.o.more hb6); have HX6 := K.mk (HXw.o.below hb6 HXw.o.lt); have HV6 := K.mk (HVw.o.below hb6 HVw.o.lt); have HB6 := K.mk (below2 HBww.o hb6); have HCF6 := K.mk (HCFw.o.below hb6); have hs6 := hb6.size; clear HY hb6)))
          generalize hp : (keyS 6 v).length = p at *
          have HP := K.mk hp
          have hkl : p ≤ 30000000000 := by rw [← hp]; exact key_small (Nat.le_refl _) HFV.o
          have HKL := K.mk hkl
          clear hp
          have hWs := HBW.o.size
          go_loopg [7, 12] p (fun g s7' s12 wr => ∃ j : Nat, j ≤ p ∧ p - j ≤ g ∧ s12 = .int .i64 j ∧ K (OwnL rByte 5 (w.heap.size + 1 + 1) wr (compS l ++ (partS v f.down).take j) s7') ∧ K (w6.grownBy wr sv.ownBlock) ∧ K (AtOwn sv w6.heap.size s7'))
          case atStart => exact ⟨0, Nat.zero_le _, Nat.le_refl _, rfl, ⟨HO6.o.cast (by simp)⟩, ⟨grown_refl _ _⟩, ⟨AtOwn.refl _ _⟩⟩
          case round =>
            obtain ⟨j, hj1, hgj, rfl, HOq, HGq, HAq⟩ := hrel
            have hwq := HGq.o.size
            have hnx : some w.heap.size ≠ sv.ownBlock := fun h => by have := (HOWN.o _ h.symm).1; omega
            have hnv : some (w.heap.size + 1) ≠ sv.ownBlock := fun h => by have := (HOWN.o _ h.symm).1; omega
            have hnb : some b ≠ sv.ownBlock := fun h => by have := (HOWN.o _ h.symm).1; omega
            have HXq := K.mk (HX6.o.grown HGq.o hnx)
            have HVq := K.mk (HV6.o.grown HGq.o hnv)
            have HCFq := K.mk (HCF6.o.frame (HGq.o.block b (by have := HB6.o.size; omega) hnb))
            have x1q := HXq.o.cell 1 rfl
            have cdq := HCFq.o.two.2
            have HLq := K.mk (show (compS l ++ (partS v f.down).take j).length ≤ 300000000000 by
              have h1 := comp_len l (got_form HGT.o)
              have h2 := got_len HGT.o
              have h3 : (x.fields.take k).length ≤ 3 := by rw [List.length_take, HFL.o]; omega
              have h4 : l.length * 30000000000 ≤ 3 * 30000000000 := Nat.mul_le_mul_right _ (by omega)
              have h5 := HKL.o
              rw [List.length_append, List.length_take]; omega)
            rcases Nat.lt_or_ge j p with hjl | hjg
            · have hjl' : (j : Int) < (p : Int) := by omega
              obtain ⟨by_, oy, y, ycs', rfl, hSy, hby, hy, rfl, hcy⟩ := HY6.o.at1 j (by rw [HP.o]; exact hjl)
              have cy := (hcy.frame (HGq.o.block by_ hby (fun h => by have := (HOWN.o _ h.symm).2; omega))).one
              have HPTT := K.mk (fun hd => part_take_t (d := f.down) hd hy)
              have HPTF := K.mk (fun hd => part_take_f (d := f.down) hd hy)
              have HTI := K.mk (turnB_int y)
              have hy255 := y.toNat_lt
              clear hy hcy
              have hd2 : f.down = true ∨ f.down = false := by cases f.down <;> simp
              rcases hd2 with hd | hd
              · rw [hd] at cdq
                have HDD := K.mk hd
                have HPTX := K.mk (HPTT.o hd)
                clear hd
                go_wp2_with (at_builtin; go_must (refine wpList_append_L (w := wr) rByte rfl _ _ 50 rfl (w.heap.size + 1 + 1) 5 i0 (.int .u8 0) 1 Tryd.underlying50 hi hz0 hz1 hz2 rfl (by decide) _ _ (by rfl) HOq.o (turnB y) [.int .u8 (255 - (y.toNat : Int))] (by show _ = _; rw [HTI.o]) (by rfl) (fun j' u hu => (Blk.new wr 5 [.int .u8 (255 - (y.toNat : Int))]).cell j' hu) (below_a1 _ _) (by have := HLq.o; unfold maxLen; omega) (by have := HLq.o; omega) (by omega) ?_))
                intro v2 w8 hown' hgrow hnn hat
                have HO8 := K.mk (hown'.cast (show _ = compS l ++ (partS v f.down).take (j + 1) by rw [HPTX.o] <;> simp))
                have HG8 := K.mk (grown_step (grown_alloc HGq.o _) hgrow HAq.o (Nat.le_refl _))
                have HA8 := K.mk (HAq.o.step hat (by first | omega | (simp; omega)))
                clear hown' hgrow hnn hat
                go_wp2_with fail
                go_roundg (p - (j + 1))
                case measure => omega
                case rel => exact ⟨j + 1, by omega, Nat.le_refl _, by go_num, HO8, HG8, HA8⟩
              · rw [hd] at cdq
                have HDD := K.mk hd
                have HPTX := K.mk (HPTF.o hd)
                clear hd
                go_wp2_with (at_builtin; go_must (refine wpList_append_L (w := wr) rByte rfl _ _ 50 rfl (w.heap.size + 1 + 1) 5 i0 (.int .u8 0) 1 Tryd.underlying50 hi hz0 hz1 hz2 rfl (by decide) _ _ (by rfl) HOq.o (y) [.int .u8 (y.toNat : Int)] (show rByte.R _ _ _ _ from rfl) (by rfl) (fun j' u hu => (Blk.new wr 5 [.int .u8 (y.toNat : Int)]).cell j' hu) (below_a1 _ _) (by have := HLq.o; unfold maxLen; omega) (by have := HLq.o; omega) (by omega) ?_))
                intro v2 w8 hown' hgrow hnn hat
                have HO8 := K.mk (hown'.cast (show _ = compS l ++ (partS v f.down).take (j + 1) by rw [HPTX.o] <;> simp))
                have HG8 := K.mk (grown_step (grown_alloc HGq.o _) hgrow HAq.o (Nat.le_refl _))
                have HA8 := K.mk (HAq.o.step hat (by first | omega | (simp; omega)))
                clear hown' hgrow hnn hat
                go_wp2_with fail
                go_roundg (p - (j + 1))
                case measure => omega
                case rel => exact ⟨j + 1, by omega, Nat.le_refl _, by go_num, HO8, HG8, HA8⟩
            · have hjl' : ¬ (j : Int) < (p : Int) := by omega
              have HFIN := K.mk (HOq.o.cast (show _ = compS (l ++ [(v, f.down)]) by
                have h1 : (partS v f.down).length ≤ j := by
                  have : (partS v f.down).length = p := by
                    cases f.down
                    · rw [part_false, HP.o]
                    · rw [part_true, List.length_map, HP.o]
                  omega
                rw [List.take_of_length_le h1, comp_append, comp_one]))
              have HGT2 := K.mk (got_snoc HFX.o HGT.o HGV.o)
              have HBq := K.mk (HB6.o.grown HGq.o (by have := HB6.o.size; omega) (fun q hq => by have := (HOWN.o _ hq).1; omega))
              go_wp2_with fail
              go_roundg (n - (k + 1))
              case measure => omega
              case rel => exact ⟨k + 1, l ++ [(v, f.down)], _, by omega, Nat.le_refl _, rfl, by go_num, HGT2, HFIN, HBq, HXq, HVq⟩
    · have hlt' : ¬ (k : Int) < (n : Int) := by omega
      have hkk : k = n := by omega
      subst hkk
      have HGT2 := K.mk (show gotS doc x.fields = some l by have h := HGT.o; rwa [List.take_of_length_le (by rw [HFL.o]; exact Nat.le_refl _)] at h)
      have HO2 := K.mk (ownL_down (B' := w.heap.size) HO.o (by omega))
      clear HO
      obtain ⟨vA, vc, rfl⟩ := HO2.o.form
      generalize hm : (compS l).length = m at *
      have HM := K.mk hm
      clear hm
      by_cases h90 : 90 < m
      · have z : (90 : Int) < (m : Int) := by omega
        go_wp2_with fail
        go_ret3
        exact keyXQ_2 (keyR_long HQ.o.1 HQ.o.2.1 HQ.o.2.2 HGT2.o (by rw [HM.o]; exact h90)) HB.o
      · have z : ¬ (90 : Int) < (m : Int) := by omega
        go_wp2_with fail
        go_ret3
        exact keyXQ_3 (keyR_ok HQ.o.1 HQ.o.2.1 HQ.o.2.2 HGT2.o (by rw [HM.o]; exact h90)) HM.o h90 HO2.o HB.o
end Go.Proofs.YtgcbkecpplhknaaDoor
