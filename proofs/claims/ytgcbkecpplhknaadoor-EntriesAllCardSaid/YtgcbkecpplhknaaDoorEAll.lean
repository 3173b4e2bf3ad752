/- Walks: a document's entries in all indexes, of the program and of the reference. -/
import Derived.Test.YtgcbkecpplhknaaDoorEKeyMC
import Derived.Test.YtgcbkecpplhknaaDoorEPlainW


import Derived.WalkKit
import Derived.Deep.QuietTactic
import Derived.BigQuiet
import Derived.Outline
import Derived.Deep.DeepMust
import Derived.Deep.CutBlock
import Derived.Deep.DeepCutAuto
import Derived.Deep.RegionWith
import Derived.WalkSpells
import Derived.WalkLawsBesides
import Derived.Test.YtgcbkecpplhknaaDoorMu
import Derived.Test.YtgcbkecpplhknaaDoorProg
set_option linter.unusedVariables false
set_option linter.unusedSimpArgs false
namespace Go.Proofs.YtgcbkecpplhknaaDoor
open Go.RowKit Go.Mu
attribute [local go_sem ↓] Go.wp_at_zero Go.wp_at_succ

/-- A document's bytes in an index, whether there are any, and the error. -/
def keyB (doc : JV) (x : IX) : List UInt8 := (keyR x doc).2
def keyO (doc : JV) (x : IX) : Bool := decide ((keyR x doc).1 = 3)
def keyE (doc : JV) (x : IX) : Int := if (keyR x doc).1 = 0 then 2 else if (keyR x doc).1 = 2 then 3 else 0
theorem keyXQ_fun {x : IX} {doc : JV} {w w' : World} {e : Ending} (h : KeyXQ x doc w e w') : ∃ A c, e = .returned (.tuple #[.slice A (keyB doc x).length c, .bool (keyO doc x), .int .i64 (keyE doc x)]) ∧ OwnL rByte 5 w.heap.size w' (keyB doc x) (.slice A (keyB doc x).length c) ∧ (keyB doc x).length ≤ 90 ∧ Below w.heap.size w w' := by
  unfold keyB keyO keyE
  obtain ⟨hb, ⟨h, he⟩ | ⟨h, he⟩ | ⟨h, he⟩ | ⟨l', A, c, h, he, hl, ho⟩⟩ := h
  · rw [h]; exact ⟨none, 0, he, OwnL.nil _ _ _ _, by decide, hb⟩
  · rw [h]; exact ⟨none, 0, he, OwnL.nil _ _ _ _, by decide, hb⟩
  · rw [h]; exact ⟨none, 0, he, OwnL.nil _ _ _ _, by decide, hb⟩
  · rw [h]; exact ⟨A, c, he, ho, hl, hb⟩
/-- The first error. -/
def allE (doc : JV) : List IX → Int
  | [] => 0
  | x :: l => if keyE doc x = 0 then allE doc l else keyE doc x
theorem allE_hit {doc : JV} {x : IX} : ∀ {xs : List IX} {k : Nat}, (∀ j y, j < k → xs[j]? = some y → keyE doc y = 0) → xs[k]? = some x → keyE doc x ≠ 0 → allE doc xs = keyE doc x
  | [], k, _, h, _ => by simp at h
  | y :: xs, 0, _, h, hx => by simp at h; subst h; unfold allE; rw [if_neg hx]
  | y :: xs, k + 1, h0, h, hx => by
    unfold allE
    rw [if_pos (h0 0 y (Nat.succ_pos _) rfl)]
    exact allE_hit (k := k) (fun j z hj hz => h0 (j + 1) z (Nat.succ_lt_succ hj) (by simpa using hz)) (by simpa using h) hx
theorem allE_none {doc : JV} : ∀ {xs : List IX}, (∀ (j : Nat) (y : IX), j < xs.length → xs[j]? = some y → keyE doc y = 0) → allE doc xs = 0
  | [], _ => rfl
  | y :: xs, h => by
    unfold allE
    rw [if_pos (h 0 y (Nat.succ_pos _) rfl)]
    exact allE_none (fun j z hj hz => h (j + 1) z (by simpa using hj) (by simpa using hz))
theorem row_info : ∃ i, Tryd.prog.info? 50 = some i ∧ i.zero = some (.slice none 0 0) ∧ i.size = 1 ∧ i.bytes = 24 := by
  have h : (Tryd.prog.info? 50).map (fun i => (i.zero, i.size, i.bytes)) = some (some (.slice none 0 0), 1, 24) := by kernel_rfl
  obtain ⟨i, hi, he⟩ := Option.map_eq_some_iff.1 h
  injection he with h1 h2
  injection h2 with h2 h3
  exact ⟨i, hi, h1, h2, h3⟩
/-- What All leaves. -/
def AllQ (doc : JV) (xs : List IX) (w : World) (e : Ending) (w' : World) : Prop := Below w.heap.size w w' ∧
  ((allE doc xs ≠ 0 ∧ e = .returned (.tuple #[.slice none 0 0, .int .i64 (allE doc xs)])) ∨
   (allE doc xs = 0 ∧ ∃ A c, e = .returned (.tuple #[.slice A xs.length c, .int .i64 0]) ∧ SliceR (rLB.R w' (fun _ => True)) 1 w' (fun _ => True) (xs.map (keyB doc)) (.slice A xs.length c)))
theorem allQ_err {doc : JV} {xs : List IX} {w w' : World} {n : Int} (h : allE doc xs = n) (hn : n ≠ 0) (hb : Below w.heap.size w w') : AllQ doc xs w (.returned (.tuple #[.slice none 0 0, .int .i64 n])) w' := by
  subst h; exact ⟨hb, .inl ⟨hn, rfl⟩⟩
theorem allQ_ok {doc : JV} {xs : List IX} {w w' : World} {n B : Nat} {v : Value} (h : allE doc xs = 0) (hn : xs.length = n) (hl : n ≤ 1000) (ho : OwnL rLB 50 B w' (xs.map (keyB doc)) v) (hb : Below w.heap.size w w') : AllQ doc xs w (.returned (.tuple #[v, .int .i64 0])) w' := by
  subst hn
  obtain ⟨A, c, rfl⟩ := ho.form
  refine ⟨hb, .inr ⟨h, A, c, by rw [List.length_map], ?_⟩⟩
  have := ho.slice (by rw [List.length_map]; unfold strMax; omega)
  rwa [List.length_map] at this

set_option maxRecDepth 100000 in
set_option maxHeartbeats 8000000 in
theorem All_calls (xs : List IX) (n : Nat) (hxn : xs.length = n) (hn : n ≤ 10) (doc : JV) (cd : List Value) (A : Option Addr) (c : Nat) (S S' : Blocks) (w : World) (h : SliceR (rIX.R w S) 3 w S xs (.slice A n c)) (hd : RV w S' doc cd) (hT : Tabs w) :
    Calls Tryd.prog 28 #[.slice A n c, .agg cd.toArray] w (AllQ doc xs w) := by
  obtain ⟨i0, hi, hz0, hz1, hz2⟩ := row_info
  have HXS := K.mk h
  have HXN := K.mk hxn
  have HK := K.mk (fun (x : IX) cx W (hW : Below w.heap.size w W) (hx : rIX.R W S x cx) => (key_calls x doc cx cd S S' W hx (rV.below hd hW) (hT.below hW)).mono (fun e w' hh => keyXQ_fun hh))
  obtain ⟨An, cn, Ai, ci, rfl, hnm, hit, hk, hnu, ht⟩ := hd.wide
  clear h hd hnm hit hT hxn
  go_enter Tryd.func28, Tryd.ntmps28
  go_wp2_with fail
  go_loopg [6, 14] n (fun g s6 s14 wr => ∃ (k : Nat) (v : Value), k ≤ n ∧ n - k ≤ g ∧ v = s6 ∧ s14 = .int .i64 k ∧ K (OwnL rLB 50 (w.heap.size + 1) wr ((xs.take k).map (keyB doc)) v) ∧ K (Below w.heap.size w wr) ∧
    K (Blk wr w.heap.size 37 [.int .i64 doc.kind, .int .i64 doc.num, .string doc.text, .slice An doc.names.length cn, .slice Ai doc.items.length ci]) ∧ K (∀ j y, j < k → xs[j]? = some y → keyE doc y = 0))
  case atStart => exact ⟨0, _, Nat.zero_le _, Nat.le_refl _, rfl, rfl, ⟨by simpa using OwnL.nil _ _ _ _⟩, ⟨below_a1 _ _⟩, ⟨Blk.new _ _ _⟩, ⟨fun j y hj => absurd hj (Nat.not_lt_zero _)⟩⟩
  case round =>
    obtain ⟨k, v, hk1, hg, rfl, rfl, HO, HB, HV, HE⟩ := hrel
    have hsz := HV.o.lt
    have hws := HB.o.size
    rcases Nat.lt_or_ge k n with hlt | hge
    · have hlt' : (k : Int) < (n : Int) := by omega
      obtain ⟨b, o, x, xcs, rfl, hS, hbb, hx, hRx, hcx⟩ := HXS.o.at k (by rw [HXN.o]; exact hlt)
      have hRw := rIX.below hRx HB.o
      obtain ⟨xA, xc, rfl, _, _⟩ := rIX_open hRx
      have HC := K.mk (HK.o x _ (wr.alloc (.cells #[.string x.name, .slice xA x.fields.length xc, .bool x.unique] 24)) (HB.o.alloc HB.o.size _) (rIX.below hRw (below_a1 _ _)))
      obtain ⟨c0, c1, c2⟩ := (hcx.below HB.o).three
      obtain ⟨v0, v1, v2, v3, v4⟩ := HV.o.five
      have HX := K.mk hx
      have HOWN := K.mk (fun q hq => HO.o.lt q hq)
      have HL := K.mk (show ((xs.take k).map (keyB doc)).length = k by rw [List.length_map, List.length_take, HXN.o]; omega)
      clear hx hcx hRx hRw
      by_cases hke : keyE doc x = 0
      · have HKE := K.mk hke
        have q0 : (keyE doc x != 0) = false := bne_ff hke
        clear hke
        go_wp2_with (first
          | (go_at_call 25; go_must ((refine HC.o.mono ?_; rintro e w5 ⟨A5, c5, rfl, ho5, h90, hb5⟩; have HB5 := K.mk (show Below wr.heap.size wr w5 from (below_a1 _ _).trans (below_lo hb5 (by simp))); have HO5 := K.mk (HO.o.more HB5.o); have HY5 := K.mk (show rLB.R w5 (fun b => some b ≠ v.ownBlock) (keyB doc x) [.slice A5 (keyB doc x).length c5] from ⟨_, rfl, (ownL_sliceT (B := wr.heap.size) ho5 (by unfold strMax; omega) (by simp)).imp (fun b hb hlt => ⟨rfl, fun he => by have := (HOWN.o _ he.symm).2; omega⟩) (fun _ _ _ h => h)⟩); have hs5 := HB5.o.size; have HV5 := K.mk (HV.o.below HB5.o hsz); have HBB5 := K.mk (below2 HB.o HB5.o); clear ho5 hb5)))
          | (at_builtin; go_must (refine wpList_append_L (w := w5) rLB rfl _ _ 57 rfl (w.heap.size + 1) 50 i0 (.slice none 0 0) 24 Tryd.underlying57 hi hz0 hz1 hz2 rfl (show 0 < 1 by decide) _ _ (by rfl) HO5.o (keyB doc x) [.slice A5 (keyB doc x).length c5] HY5.o (by rfl) (fun j' u hu => (Blk.new w5 50 [.slice A5 (keyB doc x).length c5]).cell j' hu) (below_a1 _ _) (by have := HL.o; unfold maxLen; omega) (by have := HL.o; omega) (by omega) ?_)))
        intro v2 w7 hown hgrow hnn hat
        have HO7 := K.mk (hown.cast (show _ = (xs.take (k + 1)).map (keyB doc) by rw [take_snoc_eq _ _ _ HX.o]; simp))
        have HB7 := K.mk ((HBB5.o.alloc HBB5.o.size _).grown hgrow (by have := HBB5.o.size; simp; omega) (fun q hq => by have := (HOWN.o q hq).1; omega))
        have HV7 := K.mk ((HV5.o.alloc _).grown hgrow (fun h => by have := (HOWN.o _ h.symm).1; omega))
        have HE7 := K.mk (show ∀ j y, j < k + 1 → xs[j]? = some y → keyE doc y = 0 from fun j y hj hy => by
          rcases Nat.lt_succ_iff_lt_or_eq.1 hj with hj | rfl
          · exact HE.o j y hj hy
          · rw [HX.o] at hy; injection hy with hy; subst hy; exact HKE.o)
        clear hown hgrow hnn hat
        go_wp2_with fail
        go_roundg (n - (k + 1))
        case measure => omega
        case rel => exact ⟨k + 1, _, by omega, Nat.le_refl _, rfl, by go_num, HO7, HB7, HV7, HE7⟩
      · have HKE := K.mk (And.intro (allE_hit HE.o HX.o hke) hke)
        have q0 : (keyE doc x != 0) = true := bne_tt hke
        clear hke
        go_wp2_with (go_at_call 25; go_must ((refine HC.o.mono ?_; rintro e w5 ⟨A5, c5, rfl, ho5, h90, hb5⟩; have HB5 := K.mk (show Below wr.heap.size wr w5 from (below_a1 _ _).trans (below_lo hb5 (by simp))); clear ho5 hb5)))
        go_ret2
        exact allQ_err HKE.o.1 HKE.o.2 (below2 HB.o HB5.o)
    · have hlt' : ¬ (k : Int) < (n : Int) := by omega
      have hkk : k = n := by omega
      subst hkk
      have HFIN := K.mk (allE_none (doc := doc) (xs := xs) (fun j y hj hy => HE.o j y (by rw [HXN.o] at hj; exact hj) hy))
      have HO2 := K.mk (HO.o.cast (show _ = xs.map (keyB doc) by rw [List.take_of_length_le (by rw [HXN.o]; exact Nat.le_refl _)]))
      clear HO
      go_wp2_with fail
      go_ret2
      exact allQ_ok HFIN.o HXN.o (by omega) HO2.o HB.o
set_option maxRecDepth 100000 in
set_option maxHeartbeats 8000000 in
theorem refAll_calls (xs : List IX) (n : Nat) (hxn : xs.length = n) (hn : n ≤ 10) (doc : JV) (cd : List Value) (A : Option Addr) (c : Nat) (S S' : Blocks) (w : World) (h : SliceR (rIX.R w S) 3 w S xs (.slice A n c)) (hd : RV w S' doc cd) (hT : Tabs w) :
    Calls Tryd.prog 29 #[.slice A n c, .agg cd.toArray] w (AllQ doc xs w) := by
  obtain ⟨i0, hi, hz0, hz1, hz2⟩ := row_info
  have HXS := K.mk h
  have HXN := K.mk hxn
  have HK := K.mk (fun (x : IX) cx W (hW : Below w.heap.size w W) (hx : rIX.R W S x cx) => (refKey_calls x doc cx cd S S' W hx (rV.below hd hW) (hT.below hW)).mono (fun e w' hh => keyXQ_fun hh))
  obtain ⟨An, cn, Ai, ci, rfl, hnm, hit, hk, hnu, ht⟩ := hd.wide
  clear h hd hnm hit hT hxn
  go_enter Tryd.func29, Tryd.ntmps29
  go_wp2_with fail
  go_loopg [6, 7] n (fun g s6 s14 wr => ∃ (k : Nat) (v : Value), k ≤ n ∧ n - k ≤ g ∧ v = s6 ∧ s14 = .int .i64 k ∧ K (OwnL rLB 50 (w.heap.size + 1) wr ((xs.take k).map (keyB doc)) v) ∧ K (Below w.heap.size w wr) ∧
    K (Blk wr w.heap.size 37 [.int .i64 doc.kind, .int .i64 doc.num, .string doc.text, .slice An doc.names.length cn, .slice Ai doc.items.length ci]) ∧ K (∀ j y, j < k → xs[j]? = some y → keyE doc y = 0))
  case atStart => exact ⟨0, _, Nat.zero_le _, Nat.le_refl _, rfl, rfl, ⟨by simpa using OwnL.nil _ _ _ _⟩, ⟨below_a1 _ _⟩, ⟨Blk.new _ _ _⟩, ⟨fun j y hj => absurd hj (Nat.not_lt_zero _)⟩⟩
  case round =>
    obtain ⟨k, v, hk1, hg, rfl, rfl, HO, HB, HV, HE⟩ := hrel
    have hsz := HV.o.lt
    have hws := HB.o.size
    rcases Nat.lt_or_ge k n with hlt | hge
    · have hlt' : (k : Int) < (n : Int) := by omega
      obtain ⟨b, o, x, xcs, rfl, hS, hbb, hx, hRx, hcx⟩ := HXS.o.at k (by rw [HXN.o]; exact hlt)
      have hRw := rIX.below hRx HB.o
      have hk0 : (0 : Int) ≤ (k : Int) := by omega
      have HRW := K.mk hRw
      obtain ⟨xA, xc, rfl, _, _⟩ := rIX_open hRx
      have HC := K.mk (fun W (hW : Below wr.heap.size wr W) => HK.o x _ W (below2 HB.o hW) (rIX.below HRW.o hW))
      have gx0 := fun W (hW : Below wr.heap.size wr W) => ((hcx.below HB.o).below hW).three.1
      have gx1 := fun W (hW : Below wr.heap.size wr W) => ((hcx.below HB.o).below hW).three.2.1
      have gx2 := fun W (hW : Below wr.heap.size wr W) => ((hcx.below HB.o).below hW).three.2.2
      have gd0 := fun W (hW : Below wr.heap.size wr W) => (HV.o.below hW HV.o.lt).cell 0 rfl
      have gd1 := fun W (hW : Below wr.heap.size wr W) => (HV.o.below hW HV.o.lt).cell 1 rfl
      have gd2 := fun W (hW : Below wr.heap.size wr W) => (HV.o.below hW HV.o.lt).cell 2 rfl
      have gd3 := fun W (hW : Below wr.heap.size wr W) => (HV.o.below hW HV.o.lt).cell 3 rfl
      have gd4 := fun W (hW : Below wr.heap.size wr W) => (HV.o.below hW HV.o.lt).cell 4 rfl
      have HX := K.mk hx
      have HOWN := K.mk (fun q hq => HO.o.lt q hq)
      have HL := K.mk (show ((xs.take k).map (keyB doc)).length = k by rw [List.length_map, List.length_take, HXN.o]; omega)
      clear hx hcx hRx hRw
      by_cases hke : keyE doc x = 0
      · have HKE := K.mk hke
        have q0 : (keyE doc x != 0) = false := bne_ff hke
        clear hke
        go_wp2_with fail
        go_region_held3 (fun w' => Below wr.heap.size wr w') (with_reducible (first | assumption | refine Below.drew (Below.refl _ _)))
          (first | (go_at_call 26; go_must ((refine (HC.o _ (by assumption)).mono ?_; rintro e w5 ⟨A5, c5, rfl, ho5, h90, hb5⟩; have HS5 : Below wr.heap.size wr w5 := below2 (by assumption) hb5; have HB5 := K.mk HS5; have HO5 := K.mk (HO.o.more HB5.o); have HY5 := K.mk (show rLB.R w5 (fun b => some b ≠ v.ownBlock) (keyB doc x) [.slice A5 (keyB doc x).length c5] from ⟨_, rfl, (ownL_sliceT (B := wr.heap.size) ho5 (by unfold strMax; omega) (Below.drew (Below.refl 0 wr)).size).imp (fun b hb hlt => ⟨rfl, fun he => by have := (HOWN.o _ he.symm).2; omega⟩) (fun _ _ _ h => h)⟩); have hs5 := HB5.o.size; have HV5 := K.mk (HV.o.below HB5.o hsz); have HBB5 := K.mk (below2 HB.o HB5.o); clear ho5 hb5))))
        clear gx0 gx1 gx2 gd0 gd1 gd2 gd3 gd4
        go_wp2_with (at_builtin; go_must (refine wpList_append_L (w := w5) rLB rfl _ _ 57 rfl (w.heap.size + 1) 50 i0 (.slice none 0 0) 24 Tryd.underlying57 hi hz0 hz1 hz2 rfl (show 0 < 1 by decide) _ _ (by rfl) HO5.o (keyB doc x) [.slice A5 (keyB doc x).length c5] HY5.o (by rfl) (fun j' u hu => (Blk.new w5 50 [.slice A5 (keyB doc x).length c5]).cell j' hu) (below_a1 _ _) (by have := HL.o; unfold maxLen; omega) (by have := HL.o; omega) (by omega) ?_))
        intro v2 w7 hown hgrow hnn hat
        have HO7 := K.mk (hown.cast (show _ = (xs.take (k + 1)).map (keyB doc) by rw [take_snoc_eq _ _ _ HX.o]; simp))
        have HB7 := K.mk ((HBB5.o.alloc HBB5.o.size _).grown hgrow (by have := HBB5.o.size; simp; omega) (fun q hq => by have := (HOWN.o q hq).1; omega))
        have HV7 := K.mk ((HV5.o.alloc _).grown hgrow (fun h => by have := (HOWN.o _ h.symm).1; omega))
        have HE7 := K.mk (show ∀ j y, j < k + 1 → xs[j]? = some y → keyE doc y = 0 from fun j y hj hy => by
          rcases Nat.lt_succ_iff_lt_or_eq.1 hj with hj | rfl
          · exact HE.o j y hj hy
          · rw [HX.o] at hy; injection hy with hy; subst hy; exact HKE.o)
        clear hown hgrow hnn hat
        go_wp2_with fail
        go_roundg (n - (k + 1))
        case measure => omega
        case rel => exact ⟨k + 1, _, by omega, Nat.le_refl _, rfl, by go_num, HO7, HB7, HV7, HE7⟩
      · have HKE := K.mk (And.intro (allE_hit HE.o HX.o hke) hke)
        have q0 : (keyE doc x != 0) = true := bne_tt hke
        clear hke
        go_wp2_with fail
        go_region_held3 (fun w' => Below wr.heap.size wr w') (with_reducible (first | assumption | refine Below.drew (Below.refl _ _)))
          (first | (go_at_call 26; go_must ((refine (HC.o _ (by assumption)).mono ?_; rintro e w5 ⟨A5, c5, rfl, ho5, h90, hb5⟩; have HS5 : Below wr.heap.size wr w5 := below2 (by assumption) hb5; have HB5 := K.mk HS5; clear ho5 hb5))))
        go_wp2_with fail
        go_ret2
        exact allQ_err HKE.o.1 HKE.o.2 (below2 HB.o HB5.o)
    · have hlt' : ¬ (k : Int) < (n : Int) := by omega
      have hkk : k = n := by omega
      subst hkk
      have HFIN := K.mk (allE_none (doc := doc) (xs := xs) (fun j y hj hy => HE.o j y (by rw [HXN.o] at hj; exact hj) hy))
      have HO2 := K.mk (HO.o.cast (show _ = xs.map (keyB doc) by rw [List.take_of_length_le (by rw [HXN.o]; exact Nat.le_refl _)]))
      clear HO
      go_wp2_with fail
      go_ret2
      exact allQ_ok HFIN.o HXN.o (by omega) HO2.o HB.o
end Go.Proofs.YtgcbkecpplhknaaDoor
