/- Walks: an index as the reference has it (plain of the law), few. -/
import Derived.Test.YtgcbkecpplhknaaDoorEFormR
import Derived.Test.YtgcbkecpplhknaaDoorJShow
import Derived.Deep.RegionHeld3
import Derived.Deep.RegionLaw
import Derived.Deep.DrawnRows


import Derived.WalkKit
import Derived.Deep.QuietTactic
import Derived.BigQuiet
import Derived.Outline
import Derived.Deep.DeepMust
import Derived.Deep.CutBlock
import Derived.Deep.DeepCutAuto
import Derived.Deep.RegionWith
import Derived.WalkSpells
import Derived.WalkLawsBesides
import Derived.Test.YtgcbkecpplhknaaDoorMu
import Derived.Test.YtgcbkecpplhknaaDoorProg
set_option linter.unusedVariables false
set_option linter.unusedSimpArgs false
namespace Go.Proofs.YtgcbkecpplhknaaDoor
open Go.RowKit Go.Mu
attribute [local go_sem ↓] Go.wp_at_zero Go.wp_at_succ

theorem field_info : ∃ i, Tryd.prog.info? 81 = some i ∧ i.zero = some (.agg #[.string ⟨#[]⟩, .bool false]) ∧ i.size = 2 ∧ i.bytes = 24 := by
  have h : (Tryd.prog.info? 81).map (fun i => (i.zero, i.size, i.bytes)) = some (some (.agg #[.string ⟨#[]⟩, .bool false]), 2, 24) := by kernel_rfl
  obtain ⟨i, hi, he⟩ := Option.map_eq_some_iff.1 h
  injection he with h1 h2
  injection h2 with h2 h3
  exact ⟨i, hi, h1, h2, h3⟩

theorem ownL_sliceT {α : Type} {r : Rep α} {e : TypeId} {base B : Nat} {w : World} {xs : List α} {v : Value} (h : OwnL r e base w xs v) (hl : xs.length ≤ strMax) (hB : B ≤ base) :
    SliceR (r.R w (fun _ => True)) r.sz w (fun b => B ≤ b) xs v := by
  obtain ⟨css, hlen, hR, hown⟩ := h
  have hall : ∀ c ∈ css, c.length = r.sz := fun c hc => by
    obtain ⟨j, hj, rfl⟩ := List.mem_iff_getElem.1 hc
    exact r.len (hR j _ _ (List.getElem?_eq_getElem (by omega)) (List.getElem?_eq_getElem hj))
  rcases hown.2 with ⟨rfl, h0⟩ | ⟨g, cap, cur, rfl, hbg, hg, hnc, hcm, hcs, htake⟩
  · have : xs = [] := List.eq_nil_of_length_eq_zero h0
    subst this
    exact ⟨none, 0, rfl, Nat.le_refl _, capOk_nil, fun h => absurd rfl h⟩
  · refine ⟨_, cap, rfl, hnc, ⟨hl, hcm⟩, fun hne => ⟨g, 0, rfl, Nat.le_trans hB hbg, (Array.getElem?_eq_some_iff.1 hg).1, fun j x hx => ?_⟩⟩
    have hj : j < css.length := by rw [hlen]; exact (List.getElem?_eq_some_iff.1 hx).1
    refine ⟨css[j], r.mono (hR j x _ hx (List.getElem?_eq_getElem hj)) (fun _ _ => trivial), fun i u hu => ?_⟩
    have h1 := flatten_at hall j i _ u (List.getElem?_eq_getElem hj) hu
    have h2 := hown.cells (g := g) rfl (j * r.sz + i) u h1
    rw [addr_at, ← Nat.add_assoc] at h2
    exact h2

set_option maxRecDepth 100000 in
set_option maxHeartbeats 8000000 in
theorem plain17N_calls (x : IX) (cs : List Value) (S : Blocks) (w : World) (h : rIX.R w S x cs) (h10 : x.fields.length ≤ 10) :
    Calls Tryd.prog 14 #[.agg cs.toArray] w fun e w' => ∃ cs', e = .returned (.agg cs'.toArray) ∧ rIX.R w' (fun b => w.heap.size ≤ b) x cs' ∧ Below w.heap.size w w' := by
  obtain ⟨i0, hi, hz0, hz1, hz2⟩ := field_info
  obtain ⟨A, c, rfl, hf, hns⟩ := rIX_open h
  have HF := K.mk hf
  have HNS := K.mk hns
  clear hf h hns
  generalize hn : x.fields.length = n at *
  have HL := K.mk hn
  clear hn
  go_enter Tryd.func14, Tryd.ntmps14
  go_wp2_with fail
  go_loopg [4] n (fun g s wr => ∃ (k : Nat) (v : Value), k ≤ n ∧ n - k ≤ g ∧ s = .int .i64 k ∧ K (OwnL rF 81 (w.heap.size + 1 + 1 + 1) wr (x.fields.take k) v) ∧ K (Below w.heap.size w wr) ∧ K (Blk wr w.heap.size 24 [.string x.name, .slice A n c, .bool x.unique]) ∧ K (Blk wr (w.heap.size + 1) 30 [.string ⟨#[]⟩, .slice none 0 0, .bool false]) ∧ K (Blk wr (w.heap.size + 1 + 1) 30 [.string x.name, v, .bool x.unique]) ∧ w.heap.size + 1 + 1 + 1 ≤ wr.heap.size)
  case atStart => exact ⟨0, _, Nat.zero_le _, Nat.le_refl _, rfl, ⟨by simpa using OwnL.nil _ _ _ _⟩, ⟨below_a3 _ _ _ _⟩, ⟨(Blk.new1 _ _ _ _).alloc _⟩, ⟨(Blk.newAt (by simp) _ _).alloc _⟩, ⟨Blk.newAt (by simp) _ _⟩, by simp⟩
  case round =>
    obtain ⟨k, v, hk', hg, rfl, HO, HB, HX, HR, HY, hB3⟩ := hrel
    have v1 := HX.o.cell 1 rfl
    rcases Nat.lt_or_ge k n with hlt | hge
    · obtain ⟨b, o, f, fcs, rfl, hS, hb, hfx, hRf, hcf⟩ := HF.o.at k (by rw [HL.o]; exact hlt)
      obtain ⟨rfl, hfs⟩ := rF_open hRf
      obtain ⟨c0, c1⟩ := (hcf.below HB.o).two
      have y1 := HY.o.cell 1 rfl
      have fy := HY.o.frozen 1
      have hz := HY.o.lt
      have kf : ∀ o, (wr.alloc o).frozen? ⟨w.heap.size + 1 + 1, 1, none⟩ = false := fun o => (HY.o.alloc o).frozen 1
      have kf2 : ∀ o, (wr.alloc o).drew.frozen? ⟨w.heap.size + 1 + 1, 1, none⟩ = false := fun o => ((HY.o.alloc o).drew).frozen 1
      have hi0' : (0 : Int) ≤ (k : Int) := Int.natCast_nonneg _
      have hi1 : (k : Int) < (n : Int) := by omega
      have HFX := K.mk hfx
      have hown1 : ∀ q, v.ownBlock = some q → w.heap.size + 1 + 1 + 1 ≤ q := fun q hq => (HO.o.lt q hq).1
      have nB : v.ownBlock ≠ some w.heap.size := fun h => by have := hown1 _ h; omega
      have nB2 : v.ownBlock ≠ some (w.heap.size + 1 + 1) := fun h => by have := hown1 _ h; omega
      have nb : v.ownBlock ≠ some b := fun h => by have := hown1 _ h; omega
      have hbz : b < wr.heap.size := by omega
      have HNB := K.mk (And.intro nB (And.intro nB2 nb))
      have hklen : (x.fields.take k).length = k := by rw [List.length_take, HL.o]; omega
      have HKL := K.mk hklen
      clear hfx hRf hcf hown1 nB nB2 nb hklen
      go_wp2_with fail
      go_region_law ((refine step_append_L rF (by rfl) _ _ _ (by rfl) (w.heap.size + 1 + 1 + 1) 81 i0 _ 24 Tryd.underlying28 hi hz0 hz1 hz2 rfl (by decide) v (x.fields.take k) k HKL.o (by rfl) ((HO.o.alloc _).more (Below.drew (Below.refl _ _))) f [.string f.path, .bool f.down] (rF_close hfs) ⟨wr.heap.size, 0, none⟩ 1 (by rfl) (World.news_of_block (cs := #[.string f.path, .bool f.down]) (t := 81) (fr := (0, 0)) (heap_alloc_new wr _)) (by unfold maxLen; omega) (by omega) (by simp; omega) (wr.heap.size + 1) (by simp) ?_; intro gg cap w1 hown1 hgrow hat hlt2; have HY1 := K.mk ((((HY.o.alloc (.cells #[.string f.path, .bool f.down] 81))).drew).grown hgrow (Ne.symm HNB.o.2.1)); have y2 := HY1.o.cell 1 rfl; have f2 := HY1.o.frozen 1; have HO1 := K.mk hown1; have HG1 := K.mk hgrow; have HAT := K.mk hat; clear hown1 hgrow hat))
      all_goals
        go_wp2_with fail
        go_roundg (n - (k + 1))
        case measure => omega
        case rel => exact ⟨k + 1, .slice (some ⟨gg, 0, none⟩) (k + 1) cap, by omega, Nat.le_refl _, by go_num, ⟨(HO1.o.cast (take_snoc_eq _ _ _ HFX.o).symm).far flat_F _ _ (by simp)⟩,
          ⟨(((HB.o.alloc HB.o.size _).drew).grown HG1.o (by simp; omega) (fun q hq => by have := (HO.o.lt q hq).1; omega)).setCell (p := ⟨w.heap.size + 1 + 1, 1, none⟩) (by simp; omega) _⟩,
          ⟨(((HX.o.alloc _).drew).grown HG1.o (Ne.symm HNB.o.1)).far (by simp; omega) _⟩, ⟨(((HR.o.alloc _).drew).grown HG1.o (fun h => by have := (HO.o.lt _ h.symm).1; omega)).far (by simp) _⟩, ⟨HY1.o.set 1 _⟩, by have := HG1.o.size; simp at this ⊢; omega⟩
    · have hkk : k = n := by omega
      have HT := K.mk (show x.fields.take k = x.fields by rw [hkk, ← HL.o, List.take_length])
      have HO2 := K.mk (HO.o.cast HT.o)
      clear HO
      subst hkk
      obtain ⟨vA, vc, rfl⟩ := HO2.o.form
      rw [HL.o] at HY
      obtain ⟨y0, y1, y2⟩ := HY.o.three
      obtain ⟨r0, r1, r2⟩ := HR.o.three
      have f0 := HR.o.frozen 0
      have f1 := HR.o.frozen 1
      have f2 := HR.o.frozen 2
      go_wp2_with fail
      refine bodyPost_ret (v := .agg #[.string x.name, .slice vA k vc, .bool x.unique]) (by simp [results, Tryd.results14, go_sem, y0, y1, y2, r0, r1, r2, HR.o.lt]) rfl ?_
      have HS := K.mk (ownL_sliceT (B := w.heap.size) (((HO2.o.far flat_F ⟨w.heap.size + 1, 0, none⟩ (.string x.name) (by simp)).far flat_F ⟨w.heap.size + 1, 1, none⟩ (.slice vA k vc) (by simp)).far flat_F ⟨w.heap.size + 1, 2, none⟩ (.bool x.unique) (by simp)) (by rw [HL.o]; unfold strMax; omega) (by omega))
      rw [HL.o] at HS
      exact ⟨[.string x.name, .slice vA k vc, .bool x.unique], rfl, rIX_close (HS.o.imp (fun b hb _ => ⟨rfl, hb⟩) (fun f _ cs hR => flat_F _ _ _ _ _ _ hR)) HNS.o, ((HB.o.setCell (p := ⟨w.heap.size + 1, 0, none⟩) (by simp) _).setCell (p := ⟨w.heap.size + 1, 1, none⟩) (by simp) _).setCell (p := ⟨w.heap.size + 1, 2, none⟩) (by simp) _⟩

theorem plain17_calls (x : IX) (cs : List Value) (S : Blocks) (w : World) (h : rIX.R w S x cs) (h10 : x.fields.length ≤ 10) :
    Calls Tryd.prog 14 #[.agg cs.toArray] w fun e w' => ∃ cs', e = .returned (.agg cs'.toArray) ∧ rIX.R w' (fun _ => True) x cs' ∧ Below w.heap.size w w' :=
  (plain17N_calls x cs S w h h10).mono fun e w' ⟨cs', h1, h2, h3⟩ => ⟨cs', h1, rIX.mono h2 (fun _ _ => trivial), h3⟩

set_option maxHeartbeats 4000000 in
theorem few17_calls (x : IX) (cs : List Value) (S : Blocks) (w : World) (h : rIX.R w S x cs) :
    Calls Tryd.prog 11 #[.agg cs.toArray] w fun e w' => e = .returned (.bool (fewX x)) ∧ Below w.heap.size w w' := by
  have HP := K.mk (fun h10 W (hW : Below w.heap.size w W) => plain17_calls x cs S W (rIX.below h hW) h10)
  obtain ⟨A, c, rfl, hf, hns⟩ := rIX_open h
  clear hf h
  by_cases h10 : x.fields.length ≤ 10
  · have h10' : (x.fields.length : Int) ≤ 10 := by omega
    have H10 := K.mk h10
    clear h10
    go_enter Tryd.func11, Tryd.ntmps11
    go_wp2_with (first
      | (go_at_call 14; go_must (refine (HP.o H10.o _ (below_a1 _ _)).mono ?_); rintro e w1 ⟨cs', rfl, hR, hb1⟩; have HR := K.mk hR; have HB1 := K.mk hb1; clear hR hb1)
      | (go_at_call 39; go_must (refine (refFew_calls x cs' _ _ HR.o H10.o).mono ?_); rintro e w2 ⟨rfl, hb2⟩))
    go_ret
    exact ⟨rfl, below2 (below2 (below_a1 _ _) HB1.o) hb2⟩
  · have h10' : ¬ (x.fields.length : Int) ≤ 10 := by omega
    have HF := K.mk (show fewX x = false by unfold fewX; simp; omega)
    clear h10
    go_enter Tryd.func11, Tryd.ntmps11
    go_wp2_with fail
    go_ret
    exact ⟨ret_bool HF.o.symm, below_a1 _ _⟩

/-- The index of which awake asks. -/
def ix0 : IX := ⟨bs [120], [⟨bs [97], false⟩], false⟩
theorem form0 : formX ix0 = true := by kernel_rfl
theorem name0 : nameS (bs [97, 49]) = true := by kernel_rfl
set_option maxHeartbeats 4000000 in
theorem awake17_calls (w : World) (hT : Tabs w) :
    Calls Tryd.prog 10 #[] w fun e w' => e = .returned (.bool true) ∧ Below w.heap.size w w' := by
  have HN := K.mk (fun W => Name_calls (bs [97, 49]) W)
  rw [name0] at HN
  have HT := K.mk (fun W (hW : Below w.heap.size w W) => hT.below hW)
  have HF := K.mk (fun W (hW : Below w.heap.size w W) => Formed_calls ix0 [.string (bs [120]), .slice (some ⟨W.heap.size, 0, none⟩) 1 1, .bool false] (fun _ => True) (W.alloc (.cells #[.string (bs [97]), .bool false] 65))
    (rIX_close (x := ix0) ⟨_, 1, rfl, Nat.le_refl _, capOk_of (Nat.le_refl _) (by decide), fun _ => ⟨W.heap.size, 0, rfl, trivial, by simp, fun j f hf => by
      match j, hf with
      | 0, hf =>
        simp [ix0] at hf; subst hf
        exact ⟨[.string (bs [97]), .bool false], rF_close (f := ⟨bs [97], false⟩) (by decide), fun i u hu => by simpa using (Blk.new W 65 [.string (bs [97]), .bool false]).cell i hu⟩
      | j + 1, hf => simp [ix0] at hf⟩⟩ (by decide)) (HT.o _ (hW.alloc hW.size _)))
  rw [form0] at HF
  clear hT
  go_enter Tryd.func10, Tryd.ntmps10
  go_wp2_with (first
    | (go_at_call 15; go_must (refine (HN.o _).mono ?_); rintro e w1 ⟨rfl, hb1⟩; have HB1 := K.mk hb1; clear hb1)
    | (go_at_call 12; go_must (refine (HF.o w1 HB1.o).mono ?_); rintro e w2 ⟨rfl, hb2⟩))
  go_ret
  exact ⟨rfl, below2 (HB1.o.alloc HB1.o.size _) hb2⟩
end Go.Proofs.YtgcbkecpplhknaaDoor
