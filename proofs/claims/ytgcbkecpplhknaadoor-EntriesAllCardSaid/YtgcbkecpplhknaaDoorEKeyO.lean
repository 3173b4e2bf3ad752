/- Walks: a value in new memory (the program's path.own). -/
import Derived.Test.YtgcbkecpplhknaaDoorEKeyS
import Derived.Test.YtgcbkecpplhknaaDoorEKeyPQ
import Derived.Test.YtgcbkecpplhknaaDoorEShowW
import Derived.Test.YtgcbkecpplhknaaDoorOwnM
import Derived.Deep.RegionLaw
import Derived.Deep.DrawnRows


import Derived.WalkKit
import Derived.Deep.QuietTactic
import Derived.BigQuiet
import Derived.Outline
import Derived.Deep.DeepMust
import Derived.Deep.CutBlock
import Derived.Deep.DeepCutAuto
import Derived.Deep.RegionWith
import Derived.WalkSpells
import Derived.WalkLawsBesides
import Derived.Test.YtgcbkecpplhknaaDoorMu
import Derived.Test.YtgcbkecpplhknaaDoorProg
set_option linter.unusedVariables false
set_option linter.unusedSimpArgs false
namespace Go.Proofs.YtgcbkecpplhknaaDoor
open Go.RowKit Go.Mu
attribute [local go_sem ↓] Go.wp_at_zero Go.wp_at_succ

/-- A value whose memory lies behind B. -/
def rVn (B : Nat) : Rep JV where
  sz := 5
  R := fun w S x cs => RV w (fun b => S b ∧ B ≤ b) x cs
  len := fun h => rV.len h
  one := fun h => rV.one h
  frame := fun h hm => rV.frame h (fun b hb => hm b hb.1)
  mono := fun h hm => rV.mono h (fun b hb => ⟨hm b hb.1, hb.2⟩)
  bound := fun h => rV.mono (rV.bound h) (fun b hb => ⟨⟨hb.1.1, hb.2⟩, hb.1.2⟩)
theorem ownL_sliceS {α : Type} {r : Rep α} {e : TypeId} {base B : Nat} {w : World} {xs : List α} {v : Value} (h : OwnL r e base w xs v) (hl : xs.length ≤ strMax) (hB : B ≤ base) :
    SliceR (r.R w (fun _ => True)) r.sz w (fun b => B ≤ b) xs v := by
  obtain ⟨css, hlen, hR, hown⟩ := h
  have hall : ∀ c ∈ css, c.length = r.sz := fun c hc => by
    obtain ⟨j, hj, rfl⟩ := List.mem_iff_getElem.1 hc
    exact r.len (hR j _ _ (List.getElem?_eq_getElem (by omega)) (List.getElem?_eq_getElem hj))
  rcases hown.2 with ⟨rfl, h0⟩ | ⟨g, cap, cur, rfl, hbg, hg, hnc, hcm, hcs, htake⟩
  · have : xs = [] := List.eq_nil_of_length_eq_zero h0
    subst this
    exact ⟨none, 0, rfl, Nat.le_refl _, capOk_nil, fun h => absurd rfl h⟩
  · refine ⟨_, cap, rfl, hnc, ⟨hl, hcm⟩, fun hne => ⟨g, 0, rfl, Nat.le_trans hB hbg, (Array.getElem?_eq_some_iff.1 hg).1, fun j x hx => ?_⟩⟩
    have hj : j < css.length := by rw [hlen]; exact (List.getElem?_eq_some_iff.1 hx).1
    refine ⟨css[j], r.mono (hR j x _ hx (List.getElem?_eq_getElem hj)) (fun _ _ => trivial), fun i u hu => ?_⟩
    have h1 := flatten_at hall j i _ u (List.getElem?_eq_getElem hj) hu
    have h2 := hown.cells (g := g) rfl (j * r.sz + i) u h1
    rw [addr_at, ← Nat.add_assoc] at h2
    exact h2
theorem below_lo2 {B B' : Nat} {w w' : World} (h : Below B' w w') (hB : B ≤ B') : Below B w w' := ⟨h.os, h.tape, h.output, h.size, fun k hk => h.block k (by omega)⟩
theorem below_lo3 {w w1 w2 : World} (h : Below w.heap.size w w1) (h2 : Below w1.heap.size w1 w2) : Below w.heap.size w w2 := below2 h h2
theorem heap_res {w : World} {g b : Nat} (h : b ≠ g) (u0 u1 u2 u3 u4 : Value) : (((((w.setCell ⟨g, 0, none⟩ u0).setCell ⟨g, 1, none⟩ u1).setCell ⟨g, 2, none⟩ u2).setCell ⟨g, 3, none⟩ u3).setCell ⟨g, 4, none⟩ u4).heap[b]? = w.heap[b]? := by
  rw [Below.heap_setCell _ _ _ _ h, Below.heap_setCell _ _ _ _ h, Below.heap_setCell _ _ _ _ h, Below.heap_setCell _ _ _ _ h, Below.heap_setCell _ _ _ _ h]
theorem slice_below {w w' : World} {S : Blocks} {xs : List ByteArray} {v : Value} (h : SliceR (rStr.R w S) 1 w S xs v) (hb : Below w.heap.size w w') : SliceR (rStr.R w' S) 1 w' S xs v := h.imp (fun b hS hlt => ⟨hb.block b hlt, hS⟩) (fun x _ cs h => h)
theorem blk_30 (w : World) (t : TypeId) (cs : List Value) (o1 o2 : Obj) : Blk (((w.alloc (.cells cs.toArray t)).alloc o1).alloc o2) w.heap.size t cs := ((Blk.new w t cs).alloc o1).alloc o2
theorem blk_31 (w : World) (t : TypeId) (cs : List Value) (o1 o2 : Obj) : Blk (((w.alloc o1).alloc (.cells cs.toArray t)).alloc o2) (w.heap.size + 1) t cs := by
  have h := (Blk.new (w.alloc o1) t cs).alloc o2
  rwa [World.size_alloc] at h
theorem blk_32 (w : World) (t : TypeId) (cs : List Value) (o1 o2 : Obj) : Blk (((w.alloc o1).alloc o2).alloc (.cells cs.toArray t)) (w.heap.size + 1 + 1) t cs := by
  have h := Blk.new ((w.alloc o1).alloc o2) t cs
  rwa [World.size_alloc, World.size_alloc] at h
/-- What own leaves. -/
def NewVQ (v : JV) (w : World) (e : Ending) (w' : World) : Prop := ∃ cs, e = .returned (.agg cs.toArray) ∧ RV w' (fun b => w.heap.size ≤ b) v cs ∧ Below w.heap.size w w'

set_option maxRecDepth 100000 in
set_option maxHeartbeats 8000000 in
theorem own_step (m : Nat) (v : JV) (cs : List Value) (S : Blocks) (w : World) (h : RV w S v cs) (hf : formS (m + 1) v = true) (ih : ∀ x cs S w, RV w S x cs → formS m x = true → Calls Tryd.prog 58 #[.agg cs.toArray] w (NewVQ x w)) : Calls Tryd.prog 58 #[.agg cs.toArray] w (NewVQ v w) := by
  obtain ⟨i0, hi, hz0, hz1, hz2⟩ := val_info
  obtain ⟨i1, hj, hy0, hy1, hy2⟩ := str_info
  obtain ⟨An, cn, Ai, ci, rfl, hnm, hit, hk, hn, ht⟩ := h.wide
  have HIT := K.mk hit
  have HNM := K.mk hnm
  have HIH := K.mk ih
  have HIF := K.mk (form_parts hf).2.2.1
  have hn24 : v.items.length ≤ 24 ∧ v.names.length ≤ 24 := form_24 hf
  have HKN := K.mk (And.intro hk (And.intro hn ht))
  clear h hnm hit hf ih hk hn ht
  generalize hvl : v.items.length = n at *
  have HVL := K.mk hvl
  obtain ⟨hn24, hq24⟩ := hn24
  clear hvl
  go_enter Tryd.func58, Tryd.ntmps58
  go_wp2_with (at_builtin; go_must (refine wpList_append_names rfl _ _ 34 rfl (w.heap.size + 1 + 1 + 1) 9 i1 (.string ⟨#[]⟩) 16 Tryd.underlying34 hj hy0 hy1 hy2 rfl (by rfl) v.names S An cn (by rfl) (slice_below HNM.o (below_a3 _ _ _ _)) (by unfold maxLen; omega) (by omega) (by simp) ?_))
  intro nv w4 hown hgrow
  have HO := K.mk hown
  have HB := K.mk ((below_a3 w (.cells #[.int .i64 v.kind, .int .i64 v.num, .string v.text, .slice An v.names.length cn, .slice Ai n ci] 37) (.cells #[.int .i64 0, .int .i64 0, .string ⟨#[]⟩, .slice none 0 0, .slice none 0 0] 37) (.cells #[.int .i64 v.kind, .int .i64 v.num, .string v.text, .slice An v.names.length cn, .slice Ai n ci] 37)).grown hgrow (by simp; omega) (fun q hq => by simp at hq))
  have HV := K.mk ((blk_30 w 37 [.int .i64 v.kind, .int .i64 v.num, .string v.text, .slice An v.names.length cn, .slice Ai n ci] _ _).grown hgrow (by simp))
  have HR := K.mk ((blk_31 w 37 zeroC _ _).grown hgrow (by simp))
  have HY := K.mk ((blk_32 w 37 [.int .i64 v.kind, .int .i64 v.num, .string v.text, .slice An v.names.length cn, .slice Ai n ci] _ _).grown hgrow (by simp))
  have y3 := HY.o.cell 3 rfl
  have y4 := HY.o.cell 4 rfl
  have f3 := HY.o.frozen 3
  have f4 := HY.o.frozen 4
  have hs4 := HY.o.lt
  obtain ⟨nA, nc, rfl⟩ := hown.form
  clear hown hgrow
  have HNS := K.mk (show SliceR (rStr.R w4 (fun _ => True)) 1 w4 (fun b => w.heap.size + 1 + 1 + 1 ≤ b ∧ b < w4.heap.size) v.names (.slice nA v.names.length nc) from
    (ownL_sliceS HO.o (by unfold strMax; omega) (Nat.le_refl _)).imp (fun b hb hlt => ⟨rfl, hb, hlt⟩) (fun _ _ _ h => h))
  go_wp2_with fail
  go_loopg [4] n (fun g s4 wr => ∃ (k : Nat) (iv : Value), k ≤ n ∧ n - k ≤ g ∧ s4 = .int .i64 k ∧ K (OwnL (rVn w4.heap.size) 37 w4.heap.size wr (v.items.take k) iv) ∧
    K (SliceR (rStr.R wr (fun _ => True)) 1 wr (fun b => w.heap.size + 1 + 1 + 1 ≤ b ∧ b < w4.heap.size) v.names (.slice nA v.names.length nc)) ∧ K (Below w.heap.size w wr) ∧
    K (Blk wr w.heap.size 37 [.int .i64 v.kind, .int .i64 v.num, .string v.text, .slice An v.names.length cn, .slice Ai n ci]) ∧ K (Blk wr (w.heap.size + 1) 37 zeroC) ∧
    K (Blk wr (w.heap.size + 1 + 1) 37 [.int .i64 v.kind, .int .i64 v.num, .string v.text, .slice nA v.names.length nc, iv]) ∧ w4.heap.size ≤ wr.heap.size)
  case atStart => exact ⟨0, _, Nat.zero_le _, Nat.le_refl _, rfl, ⟨by simpa using OwnL.nil _ _ _ _⟩, ⟨HNS.o.imp (fun b hb hlt => ⟨by rw [Below.heap_setCell _ _ _ _ (show b ≠ w.heap.size + 1 + 1 by omega), Below.heap_setCell _ _ _ _ (show b ≠ w.heap.size + 1 + 1 by omega)], hb⟩) (fun _ _ _ h => h)⟩,
    ⟨(HB.o.setCell (p := ⟨w.heap.size + 1 + 1, 3, none⟩) (by show w.heap.size ≤ w.heap.size + 1 + 1; omega) _).setCell (p := ⟨w.heap.size + 1 + 1, 4, none⟩) (by show w.heap.size ≤ w.heap.size + 1 + 1; omega) _⟩,
    ⟨(HV.o.far (p := ⟨w.heap.size + 1 + 1, 3, none⟩) (by show w.heap.size ≠ w.heap.size + 1 + 1; omega) _).far (p := ⟨w.heap.size + 1 + 1, 4, none⟩) (by show w.heap.size ≠ w.heap.size + 1 + 1; omega) _⟩,
    ⟨(HR.o.far (p := ⟨w.heap.size + 1 + 1, 3, none⟩) (by show w.heap.size + 1 ≠ w.heap.size + 1 + 1; omega) _).far (p := ⟨w.heap.size + 1 + 1, 4, none⟩) (by show w.heap.size + 1 ≠ w.heap.size + 1 + 1; omega) _⟩,
    ⟨(HY.o.set 3 _).set 4 _⟩, by simp [World.setCell]⟩
  case round =>
    clear HO HB HV HR HY y3 y4 f3 f4 HNS
    obtain ⟨k, iv, hk1, hg, rfl, HO, HNS, HB, HV, HR, HY, hw4⟩ := hrel
    have hOW : ∀ q, iv.ownBlock = some q → w4.heap.size ≤ q ∧ q < wr.heap.size := fun q hq => HO.o.lt q hq
    have HOW := K.mk hOW
    clear hOW
    have v4 := HV.o.cell 4 rfl
    have hsz := HV.o.lt
    rcases Nat.lt_or_ge k n with hlt | hge
    · have hlt' : (k : Int) < (n : Int) := by omega
      have hk0 : (0 : Int) ≤ (k : Int) := by omega
      obtain ⟨bb, o, x, xcs, rfl, hS, hbb, hx, hRx, hcx⟩ := HIT.o.at k (by rw [HVL.o]; exact hlt)
      have HX := K.mk hx
      have HC := K.mk (fun W (hW : Below wr.heap.size wr W) => HIH.o x xcs S W (rV.below hRx (HB.o.trans (below_lo2 hW HB.o.size))) (HIF.o x (List.mem_of_getElem? hx)))
      have HKL := K.mk (show (v.items.take k).length = k by rw [List.length_take, HVL.o]; omega)
      obtain ⟨xAn, xcn, xA, xc, rfl, _⟩ := hRx.wide
      obtain ⟨c0, c1, c2, c3, c4⟩ := (hcx.below HB.o).five
      have y4 := HY.o.cell 4 rfl
      have f4 := HY.o.frozen 4
      have hyl := HY.o.lt
      have hbw : bb < wr.heap.size := Nat.lt_of_lt_of_le hbb HB.o.size
      clear hx hcx hRx
      go_wp2_with fail
      go_region_law (first
        | ((refine step_append_L (rVn w4.heap.size) (by rfl) _ _ _ (by rfl) w4.heap.size 37 i0 _ 80 Tryd.underlying35 hi hz0 hz1 hz2 rfl (show 0 < 5 by decide) iv (v.items.take k) k HKL.o (by rfl) (HO5.o.alloc _) x [.int .i64 x.kind, .int .i64 x.num, .string x.text, .slice yAn x.names.length ycn, .slice yA x.items.length yc] HR5.o ⟨w5.heap.size, 0, none⟩ 1 (by rfl) (World.news_of_block (cs := #[.int .i64 x.kind, .int .i64 x.num, .string x.text, .slice yAn x.names.length ycn, .slice yA x.items.length yc]) (t := 37) (fr := (0, 0)) (heap_alloc_new w5 _)) (by unfold maxLen; omega) (by omega) (by simp; omega) (w5.heap.size + 1) (by simp) ?_; intro gg cap w7 hown hgrow hat hlt2; have HO7 := K.mk hown; have HY7 := K.mk ((HY5.o.alloc _).grown hgrow (fun h => by have := (HOW.o _ h.symm).1; omega)); have y7 := HY7.o.cell 4 rfl; have f7 := HY7.o.frozen 4; have HB7 := K.mk (((below_lo3 HB.o HB5.o).alloc (Nat.le_trans HB.o.size HB5.o.size) _).grown hgrow (by have := HB.o.size; have := HB5.o.size; simp; omega) (fun q hq => by have := (HOW.o _ hq).1; omega)); have HV7 := K.mk (((HV.o.below HB5.o hsz).alloc _).grown hgrow (fun h => by have := (HOW.o _ h.symm).1; omega)); have HR7 := K.mk (((HR.o.below HB5.o HR.o.lt).alloc _).grown hgrow (fun h => by have := (HOW.o _ h.symm).1; omega)); have HNS7 := K.mk (show SliceR (rStr.R w7 (fun _ => True)) 1 w7 (fun b => w.heap.size + 1 + 1 + 1 ≤ b ∧ b < w4.heap.size) v.names (.slice nA v.names.length nc) from HNS.o.imp (fun b hb hlt => ⟨by rw [hgrow.block b (by simp; omega) (fun h => by have := (HOW.o _ h.symm).1; omega), Below.heap_alloc _ _ _ (by omega), HB5.o.block b hlt], hb⟩) (fun _ _ _ h => h)); have hs7 := hgrow.size; have HX7 := K.mk (fun hk => (HO7.o.lt gg hk).1); clear hown hgrow hat))
        | (go_simp; go_at_call 58; refine (HC.o _ (Below.drew (Below.refl _ _))).mono ?_; rintro e w5 ⟨ycs, rfl, hR5, hb5⟩; obtain ⟨yAn, ycn, yA, yc, rfl, _⟩ := hR5.wide; have HB5 := K.mk (show Below wr.heap.size wr w5 from (Below.drew (Below.refl _ _)).trans hb5); have HO5 := K.mk (HO.o.more HB5.o); have HR5 := K.mk (show (rVn w4.heap.size).R (w5.alloc (.cells #[.int .i64 x.kind, .int .i64 x.num, .string x.text, .slice yAn x.names.length ycn, .slice yA x.items.length yc] 37)) (fun b => some b ≠ iv.ownBlock) x _ from rV.mono (rV.below hR5 (below_a1 _ _)) (fun b hb => ⟨fun h => by have := (HOW.o _ h.symm).2; have h9 : wr.heap.size ≤ b := hb; omega, Nat.le_trans hw4 hb⟩)); have HY5 := K.mk (HY.o.below HB5.o hyl); have y5 := HY5.o.cell 4 rfl; have y5a := fun ob => (HY5.o.alloc ob).cell 4 rfl; have f5 := HY5.o.frozen 4; have hs5 := HB5.o.size; clear hR5 hb5))
      all_goals
        go_wp2_with fail
        go_roundg (n - (k + 1))
        case measure => omega
        case rel => exact ⟨k + 1, .slice (some ⟨gg, 0, none⟩) (k + 1) cap, by omega, Nat.le_refl _, by go_num,
          ⟨(HO7.o.cast (take_snoc_eq _ _ _ HX.o).symm).kept (grownBy_setCell w7 ⟨w.heap.size + 1 + 1, 4, none⟩ _) (fun h => by have h1 : some gg = some (w.heap.size + 1 + 1) := h; injection h1 with h1; have := HX7.o rfl; omega)
            (fun j y cs _ hy => rV.mono hy (fun b hb => ⟨⟨hb.1, fun h => by have h1 : w4.heap.size ≤ b := hb.2; have h2 : b = w.heap.size + 1 + 1 := h; omega⟩, hb.2⟩))⟩,
          ⟨HNS7.o.imp (fun b hb hlt => ⟨by rw [Below.heap_setCell _ _ _ _ (show b ≠ w.heap.size + 1 + 1 by omega)], hb⟩) (fun _ _ _ h => h)⟩,
          ⟨HB7.o.setCell (p := ⟨w.heap.size + 1 + 1, 4, none⟩) (by show w.heap.size ≤ w.heap.size + 1 + 1; omega) _⟩,
          ⟨HV7.o.far (p := ⟨w.heap.size + 1 + 1, 4, none⟩) (by show w.heap.size ≠ w.heap.size + 1 + 1; omega) _⟩,
          ⟨HR7.o.far (p := ⟨w.heap.size + 1 + 1, 4, none⟩) (by show w.heap.size + 1 ≠ w.heap.size + 1 + 1; omega) _⟩, ⟨HY7.o.set 4 _⟩, by simp [World.setCell] at hs7 ⊢; omega⟩
    · have hlt' : ¬ (k : Int) < (n : Int) := by omega
      have hkk : k = n := by omega
      have HO2 := K.mk (HO.o.cast (show _ = v.items by rw [hkk, List.take_of_length_le (by rw [HVL.o]; exact Nat.le_refl _)]))
      obtain ⟨iA, ic, rfl⟩ := HO2.o.form
      obtain ⟨y0, y1, y2, y3, y4⟩ := HY.o.five
      obtain ⟨r0, r1, r2, r3, r4⟩ := HR.o.five
      have f0 := HR.o.frozen 0
      have f1 := HR.o.frozen 1
      have f2 := HR.o.frozen 2
      have f3 := HR.o.frozen 3
      have f4 := HR.o.frozen 4
      have hgl := HR.o.lt
      clear HO
      go_wp2_with fail
      refine bodyPost_ret (v := .agg #[.int .i64 v.kind, .int .i64 v.num, .string v.text, .slice nA v.names.length nc, .slice iA v.items.length ic]) (by simp [zeroC, results, Tryd.results58, go_sem, r0, r1, r2, r3, r4, HR.o.lt]) rfl ?_
      refine ⟨_, rfl, ?_, below_res HB.o (Nat.le_succ _) _ _ _ _ _⟩
      have hR : RV wr (fun b => w.heap.size + 1 + 1 + 1 ≤ b) v [.int .i64 v.kind, .int .i64 v.num, .string v.text, .slice nA v.names.length nc, .slice iA v.items.length ic] :=
        RV.close (HNS.o.imp (fun b hb _ => ⟨rfl, hb.1⟩) (fun _ _ _ h => h)) ((ownL_sliceS (B := w.heap.size + 1 + 1 + 1) HO2.o (by rw [HVL.o]; unfold strMax; omega) (by omega)).imp (fun b hb _ => ⟨rfl, hb⟩) (fun x _ cs h => rV.mono h (fun b hb => by have h1 : w4.heap.size ≤ b := hb.2; show w.heap.size + 1 + 1 + 1 ≤ b; omega))) HKN.o.1 HKN.o.2.1 HKN.o.2.2
      exact RV.step (fun b hb hlt => ⟨heap_res (by omega) _ _ _ _ _, by omega⟩) _ _ hR

theorem own_calls : ∀ (m : Nat) (v : JV) (cs : List Value) (S : Blocks) (w : World), RV w S v cs → formS m v = true → Calls Tryd.prog 58 #[.agg cs.toArray] w (NewVQ v w)
  | 0, v, cs, S, w, h, hf => by simp [formS] at hf
  | m + 1, v, cs, S, w, h, hf => own_step m v cs S w h hf (own_calls m)
end Go.Proofs.YtgcbkecpplhknaaDoor
