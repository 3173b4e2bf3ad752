/- Walks: value of the printer, of an Array or Object; Print of the program. -/
import Derived.Test.YtjiokidindnolaaDoorJPrnV


import Derived.WalkKit
import Derived.Deep.QuietTactic
import Derived.BigQuiet
import Derived.Outline
import Derived.Deep.DeepMust
import Derived.Deep.CutBlock
import Derived.Deep.DeepCutAuto
import Derived.Deep.RegionWith
import Derived.WalkSpells
import Derived.WalkLawsBesides
import Derived.Test.YtjiokidindnolaaDoorMu
import Derived.Test.YtjiokidindnolaaDoorProg
set_option linter.unusedVariables false
set_option linter.unusedSimpArgs false
namespace Go.Proofs.YtjiokidindnolaaDoor
open Go.RowKit Go.Mu

/-- A new box, written. -/
theorem box5 (w : World) (o : Obj) (u0 u1 u2 u3 u4 : Value) : Below w.heap.size w ((((((w.alloc o).setCell ⟨w.heap.size, 0, none⟩ u0).setCell ⟨w.heap.size, 1, none⟩ u1).setCell ⟨w.heap.size, 2, none⟩ u2).setCell ⟨w.heap.size, 3, none⟩ u3).setCell ⟨w.heap.size, 4, none⟩ u4) :=
  ((((((below_a1 w o).setCell (p := ⟨w.heap.size, 0, none⟩) (Nat.le_refl _) u0).setCell (p := ⟨w.heap.size, 1, none⟩) (Nat.le_refl _) u1).setCell (p := ⟨w.heap.size, 2, none⟩) (Nat.le_refl _) u2).setCell (p := ⟨w.heap.size, 3, none⟩) (Nat.le_refl _) u3).setCell (p := ⟨w.heap.size, 4, none⟩) (Nat.le_refl _) u4)

theorem PB.lt {B b : Nat} {l : List UInt8} {w : World} (h : PB B b l w) : b < w.heap.size := h.elim (fun x => x.lt) (fun x => x.lt)
theorem PB.le {B b : Nat} {l : List UInt8} {w : World} (h : PB B b l w) : B ≤ b := h.elim (fun x => x.1) (fun x => x.1)

theorem bodyS_mono (v : JV) (f : JV → List UInt8) (k n : Nat) (h : k ≤ n) : (bodyS v f k).length ≤ (bodyS v f n).length := by
  induction n with
  | zero => obtain rfl : k = 0 := by omega
            exact Nat.le_refl _
  | succ n ih =>
    rcases Nat.lt_or_ge k (n + 1) with h1 | h1
    · have h2 := ih (by omega)
      have h3 : (bodyS v f n).length ≤ (bodyS v f (n + 1)).length := by
        rw [bodyS, List.length_append, List.length_append]; omega
      omega
    · obtain rfl : k = n + 1 := by omega
      exact Nat.le_refl _

set_option maxRecDepth 100000 in
set_option maxHeartbeats 8000000 in
theorem value_arr (m : Nat) (hm : m ≤ 5) (v : JV) (cs : List Value) (B b : Nat) (l : List UInt8) (w : World) (h : RV w (fun k => k < B) v cs) (hf : formS (m + 1) v = true) (hk' : v.kind = 5) (hP : PB B b l w) (hT : PT w) (hg : 2 < B)
    (hl : l.length + (showS (m + 1) v).length ≤ 70000000000000) (hBw : B ≤ w.heap.size)
    (IH : K (∀ x ∈ v.items, ∀ (cs : List Value) (l : List UInt8) (w : World), RV w (fun k => k < B) x cs → PB B b l w → PT w → l.length + (showS m x).length ≤ 70000000000000 → B ≤ w.heap.size →
      Calls Tryd.prog 22 #[.pointer (some ⟨b, 0, none⟩), .agg cs.toArray] w (PQ B b (l ++ showS m x) w))) :
    Calls Tryd.prog 22 #[.pointer (some ⟨b, 0, none⟩), .agg cs.toArray] w (PQ B b (l ++ showS (m + 1) v) w) := by
  obtain ⟨An, cn, Ai, ci, rfl, hnm, hit, hk, hn, ht⟩ := h.wide
  have hilen := hit.len_le
  have hnlen := hnm.len_le
  have hsl := show_list m v (by omega)
  rw [if_neg (by omega), if_neg (by omega)] at hsl
  have HSL := K.mk hsl
  have HR := K.mk hit
  have HK' := K.mk hk'
  have HT := K.mk hT
  have HL := K.mk hl
  have HRV := K.mk h
  have hne : w.heap.size ≠ b := by have := hP.lt; omega
  have HP := K.mk (hP.more (below_a1 w (.cells #[.int .i64 5, .int .i64 v.num, .string v.text, .slice An v.names.length cn, .slice Ai v.items.length ci] 25)))
  have hl1 : l.length ≤ 70000000000000 := by omega
  rw [hk']
  clear hnm hit h hsl hP hk hT hl hk' hf
  go_enter Tryd.func22, Tryd.ntmps22
  go_wp2_with fail
  go_region_with (first
    | (go_at_call 35; refine (WriteByte_n 91 91 rfl B b _ _ HP.o.drew (by omega) (by simp; omega)).mono ?_; rintro e w2 ⟨rfl, hp2, hb2, hk2⟩; have HP2 := K.mk hp2; have HB2 := K.mk hb2; have HK2 := K.mk hk2; have HV := K.mk (Blk.pk ((Blk.new w 25 [.int .i64 5, .int .i64 v.num, .string v.text, .slice An v.names.length cn, .slice Ai v.items.length ci]).drew) hk2 hne); clear hp2 hb2 hk2; obtain ⟨v0, v1, v2, v3, v4⟩ := HV.o.five))
  have hLk : ∀ k, k ≤ v.items.length → l.length + (91 :: bodyS v (showS m) k).length ≤ 70000000000000 := fun k hk => by
    have h1 := HL.o
    rw [HSL.o] at h1
    have h2 := bodyS_mono v (showS m) k v.items.length hk
    simp only [List.length_cons, List.length_append] at h1 ⊢
    omega
  have HLK := K.mk hLk
  have HBW := K.mk ((((Below.refl B w).alloc hBw (.cells #[.int .i64 5, .int .i64 v.num, .string v.text, .slice An v.names.length cn, .slice Ai v.items.length ci] 25)).drew).trans HB2.o)
  have HKW := K.mk (((PK.more (b := b) (below_a1 w (.cells #[.int .i64 5, .int .i64 v.num, .string v.text, .slice An v.names.length cn, .slice Ai v.items.length ci] 25))).drew).trans HK2.o)
  clear hLk HB2 HK2 HP
  go_wp2_with fail
  go_loopg [48] v.items.length (fun g s48 wr => ∃ k : Nat, k ≤ v.items.length ∧ v.items.length - k ≤ g ∧ s48 = .int .i64 k ∧ K (PB B b (l ++ 91 :: bodyS v (showS m) k) wr) ∧ K (Below B w wr) ∧ K (PK b w wr) ∧ K (Blk wr w.heap.size 25 [.int .i64 5, .int .i64 v.num, .string v.text, .slice An v.names.length cn, .slice Ai v.items.length ci]))
  case atStart => exact ⟨0, Nat.zero_le _, Nat.le_refl _, rfl, ⟨HP2.o⟩, HBW, HKW, HV⟩
  case round =>
    clear HP2 HBW HKW HV v0 v1 v2 v3 v4
    obtain ⟨k, hk', hgg, rfl, HP, HB, HK, HV⟩ := hrel
    have hBr := BelowB.size HB.o hBw
    obtain ⟨v0, v1, v2, v3, v4⟩ := HV.o.five
    have hLr : (l ++ 91 :: bodyS v (showS m) k).length ≤ 70000000000000 := by rw [List.length_append]; exact HLK.o k hk'
    rcases Nat.lt_or_ge k v.items.length with hlt | hge
    · have hlt' : (k : Int) < (v.items.length : Int) := by omega
      obtain ⟨b', o, x, xcs, rfl, hS, hbb, hx, hRx, hcx⟩ := HR.o.at k hlt
      have hmem := List.mem_of_getElem? hx
      have HX := K.mk hx
      have HXR := K.mk hRx
      obtain ⟨xAn, xcn, xA, xc, rfl, _⟩ := hRx.wide
      obtain ⟨c0, c1, c2, c3, c4⟩ := (hcx.frame (HB.o.block b' hS)).five
      clear hx hcx hRx
      have d0 := fun o => (HV.o.alloc o).cell 0 rfl
      have d3 := fun o => (HV.o.alloc o).cell 3 rfl
      have hstep : 91 :: bodyS v (showS m) k ++ (headS v k ++ showS m x) = 91 :: bodyS v (showS m) (k + 1) := by rw [bodyS_succ v _ k x HX.o]; simp
      have hL2 := HLK.o (k + 1) (by omega)
      rw [← hstep] at hL2
      have HSTEP := K.mk hstep
      have hXB : ∀ o, Below B w (wr.alloc o) := fun o => HB.o.alloc hBr o
      have HXB := K.mk hXB
      have hwb : wr.heap.size ≠ b := by have := HP.o.lt; omega
      clear hstep hXB
      rcases Nat.eq_zero_or_pos k with hk0 | hk0
      · subst hk0
        have hh : headS v 0 = [] := by simp [headS, HK'.o]
        rw [hh, List.nil_append] at HSTEP hL2
        simp only [Nat.zero_mul, Nat.add_zero] at c0 c1 c2 c3 c4
        go_wp2_with (go_at_call 22; go_must (refine (IH.o x hmem _ _ _ (rV.frame HXR.o (fun b hb => (HXB.o _).block b hb)) (HP.o.alloc _) (HT.o.below (HXB.o _) hg) (by simp only [List.length_append] at hL2 ⊢; omega) (by simp; omega)).mono ?_); rintro e w3 ⟨rfl, hp3, hb3, hk3⟩; have HP3 := K.mk hp3; have HB3 := K.mk hb3; have HK3 := K.mk hk3; clear hp3 hb3 hk3)
        go_roundg (v.items.length - 1)
        case measure => omega
        case rel => exact ⟨1, by omega, Nat.le_refl _, by go_num, ⟨by rw [← HSTEP.o, ← List.append_assoc]; exact HP3.o⟩, ⟨(HXB.o _).trans HB3.o⟩, ⟨(HK.o.trans (PK.more (below_a1 _ _))).trans HK3.o⟩, ⟨Blk.pk (HV.o.alloc _) HK3.o hne⟩⟩
      · have hh : headS v k = [44] := by simp [headS, HK'.o, hk0]
        have hpos : (0 : Int) < (k : Int) := by omega
        rw [hh] at HSTEP hL2
        go_wp2_with (first
          | (go_at_call 35; go_must (refine (WriteByte_n 44 44 rfl B b _ _ (HP.o.alloc _) (by omega) (by simp; omega)).mono ?_); rintro e w2 ⟨rfl, hp2, hb2, hk2⟩; have HP2 := K.mk hp2; have HB2 := K.mk hb2; have HK2 := K.mk hk2; have HV2 := K.mk (Blk.pk (HV.o.alloc _) hk2 hne); have HX2 := K.mk (Blk.pk (Blk.new wr 25 [.int .i64 x.kind, .int .i64 x.num, .string x.text, .slice xAn x.names.length xcn, .slice xA x.items.length xc]) hk2 hwb); clear hp2 hb2 hk2; obtain ⟨v0, v1, v2, v3, v4⟩ := HV2.o.five; obtain ⟨x0, x1, x2, x3, x4⟩ := HX2.o.five)
          | (go_at_call 22; go_must (refine (IH.o x hmem _ _ _ (rV.frame HXR.o (fun b hb => ((HXB.o _).trans HB2.o).block b hb)) HP2.o (HT.o.below ((HXB.o _).trans HB2.o) hg) (by simp only [List.length_append, List.length_cons, List.length_nil] at hL2 ⊢; omega) (BelowB.size HB2.o (by simp; omega))).mono ?_); rintro e w3 ⟨rfl, hp3, hb3, hk3⟩; have HP3 := K.mk hp3; have HB3 := K.mk hb3; have HK3 := K.mk hk3; clear hp3 hb3 hk3))
        go_roundg (v.items.length - (k + 1))
        case measure => omega
        case rel => exact ⟨k + 1, by omega, Nat.le_refl _, by go_num, ⟨by rw [← HSTEP.o]; have h9 := HP3.o; simpa [List.append_assoc] using h9⟩, ⟨((HXB.o _).trans HB2.o).trans HB3.o⟩, ⟨((HK.o.trans (PK.more (below_a1 _ _))).trans HK2.o).trans HK3.o⟩, ⟨Blk.pk HV2.o HK3.o hne⟩⟩
    · have hge' : ¬ (k : Int) < (v.items.length : Int) := by omega
      have hkk : v.items.length = k := by omega
      go_wp2_with fail
      go_region_with (first
        | (go_at_call 35; refine (WriteByte_n 93 93 rfl B b _ _ HP.o.drew (by omega) hBr).mono ?_; rintro e w2 ⟨rfl, hp2, hb2, hk2⟩; have HP2 := K.mk hp2; have HB2 := K.mk hb2; have HK2 := K.mk hk2; clear hp2 hb2 hk2))
      go_wp2_with fail
      go_end0
      refine ⟨rfl, ?_, HB.o.drew.trans HB2.o, HK.o.drew.trans HK2.o⟩
      rw [HSL.o, hkk]
      have h9 := HP2.o
      simpa [List.append_assoc] using h9

set_option maxRecDepth 100000 in
set_option maxHeartbeats 8000000 in
theorem value_obj (m : Nat) (hm : m ≤ 5) (v : JV) (cs : List Value) (B b : Nat) (l : List UInt8) (w : World) (h : RV w (fun k => k < B) v cs) (hf : formS (m + 1) v = true) (hk' : v.kind = 6) (hP : PB B b l w) (hT : PT w) (hg : 2 < B)
    (hl : l.length + (showS (m + 1) v).length ≤ 70000000000000) (hBw : B ≤ w.heap.size)
    (IH : K (∀ x ∈ v.items, ∀ (cs : List Value) (l : List UInt8) (w : World), RV w (fun k => k < B) x cs → PB B b l w → PT w → l.length + (showS m x).length ≤ 70000000000000 → B ≤ w.heap.size →
      Calls Tryd.prog 22 #[.pointer (some ⟨b, 0, none⟩), .agg cs.toArray] w (PQ B b (l ++ showS m x) w))) :
    Calls Tryd.prog 22 #[.pointer (some ⟨b, 0, none⟩), .agg cs.toArray] w (PQ B b (l ++ showS (m + 1) v) w) := by
  obtain ⟨_, _, _, h2⟩ := form_parts hf
  obtain ⟨_, hnn, hns⟩ := h2 (by omega)
  rw [if_pos hk'] at hnn
  obtain ⟨An, cn, Ai, ci, rfl, hnm, hit, hk, hn, ht⟩ := h.wide
  have hilen := hit.len_le
  have hnlen := hnm.len_le
  have hsl := show_list m v (by omega)
  rw [if_pos hk', if_pos hk'] at hsl
  have HSL := K.mk hsl
  have HR := K.mk hit
  have HN := K.mk hnm
  have HNN := K.mk hnn
  have HNS := K.mk hns
  have HK' := K.mk hk'
  have HT := K.mk hT
  have HL := K.mk hl
  have hne : w.heap.size ≠ b := by have := hP.lt; omega
  have HP := K.mk (hP.more (below_a1 w (.cells #[.int .i64 6, .int .i64 v.num, .string v.text, .slice An v.names.length cn, .slice Ai v.items.length ci] 25)))
  have hl1 : l.length ≤ 70000000000000 := by omega
  rw [hk']
  clear hnm hit h hsl hP hk hT hl hk' hf h2 hns hnn
  go_enter Tryd.func22, Tryd.ntmps22
  go_wp2_with fail
  go_region_with (first
    | (go_at_call 35; refine (WriteByte_n 123 123 rfl B b _ _ HP.o.drew (by omega) (by simp; omega)).mono ?_; rintro e w2 ⟨rfl, hp2, hb2, hk2⟩; have HP2 := K.mk hp2; have HB2 := K.mk hb2; have HK2 := K.mk hk2; have HV := K.mk (Blk.pk ((Blk.new w 25 [.int .i64 6, .int .i64 v.num, .string v.text, .slice An v.names.length cn, .slice Ai v.items.length ci]).drew) hk2 hne); clear hp2 hb2 hk2; obtain ⟨v0, v1, v2, v3, v4⟩ := HV.o.five))
  have hLk : ∀ k, k ≤ v.items.length → l.length + (123 :: bodyS v (showS m) k).length ≤ 70000000000000 := fun k hk => by
    have h1 := HL.o
    rw [HSL.o] at h1
    have h2 := bodyS_mono v (showS m) k v.items.length hk
    simp only [List.length_cons, List.length_append] at h1 ⊢
    omega
  have HLK := K.mk hLk
  have HBW := K.mk ((((Below.refl B w).alloc hBw (.cells #[.int .i64 6, .int .i64 v.num, .string v.text, .slice An v.names.length cn, .slice Ai v.items.length ci] 25)).drew).trans HB2.o)
  have HKW := K.mk (((PK.more (b := b) (below_a1 w (.cells #[.int .i64 6, .int .i64 v.num, .string v.text, .slice An v.names.length cn, .slice Ai v.items.length ci] 25))).drew).trans HK2.o)
  clear hLk HB2 HK2 HP
  go_wp2_with fail
  go_loopg [48] v.items.length (fun g s48 wr => ∃ k : Nat, k ≤ v.items.length ∧ v.items.length - k ≤ g ∧ s48 = .int .i64 k ∧ K (PB B b (l ++ 123 :: bodyS v (showS m) k) wr) ∧ K (Below B w wr) ∧ K (PK b w wr) ∧ K (Blk wr w.heap.size 25 [.int .i64 6, .int .i64 v.num, .string v.text, .slice An v.names.length cn, .slice Ai v.items.length ci]))
  case atStart => exact ⟨0, Nat.zero_le _, Nat.le_refl _, rfl, ⟨HP2.o⟩, HBW, HKW, HV⟩
  case round =>
    clear HP2 HBW HKW HV v0 v1 v2 v3 v4
    obtain ⟨k, hk', hgg, rfl, HP, HB, HK, HV⟩ := hrel
    have hBr := BelowB.size HB.o hBw
    obtain ⟨v0, v1, v2, v3, v4⟩ := HV.o.five
    have hLr : (l ++ 123 :: bodyS v (showS m) k).length ≤ 70000000000000 := by rw [List.length_append]; exact HLK.o k hk'
    rcases Nat.lt_or_ge k v.items.length with hlt | hge
    · have hlt' : (k : Int) < (v.items.length : Int) := by omega
      obtain ⟨nb, no, nm, ncs, rfl, hnS, _, hnx, ⟨rfl, _⟩, hnc⟩ := HN.o.at1 k (by rw [HNN.o]; exact hlt)
      have hlt2 : (k : Int) < (v.names.length : Int) := by rw [HNN.o]; omega
      have hgn : v.names.getD k ByteArray.empty = nm := by rw [List.getD_eq_getElem?_getD, hnx]; rfl
      have hnsz : nm.size ≤ 60 := by rw [← hgn]; exact namesS_text HNS.o k (by rw [HNN.o]; exact hlt)
      have HGN := K.mk hgn
      have HNC := K.mk (fun W (hW : Below B w W) => (hnc.frame (hW.block nb hnS)).one)
      clear hnx hgn hnc
      obtain ⟨b', o, x, xcs, rfl, hS, hbb, hx, hRx, hcx⟩ := HR.o.at k hlt
      have hmem := List.mem_of_getElem? hx
      have HX := K.mk hx
      have HXR := K.mk hRx
      obtain ⟨xAn, xcn, xA, xc, rfl, _⟩ := hRx.wide
      obtain ⟨c0, c1, c2, c3, c4⟩ := (hcx.frame (HB.o.block b' hS)).five
      clear hx hcx hRx
      have d0 := fun o => (HV.o.alloc o).cell 0 rfl
      have d3 := fun o => (HV.o.alloc o).cell 3 rfl
      have hstep : 123 :: bodyS v (showS m) k ++ (headS v k ++ showS m x) = 123 :: bodyS v (showS m) (k + 1) := by rw [bodyS_succ v _ k x HX.o]; simp
      have hL2 := HLK.o (k + 1) (by omega)
      rw [← hstep] at hL2
      have HSTEP := K.mk hstep
      have hXB : ∀ o, Below B w (wr.alloc o) := fun o => HB.o.alloc hBr o
      have HXB := K.mk hXB
      have hwb : wr.heap.size ≠ b := by have := HP.o.lt; omega
      have n0 := fun o => HNC.o _ (HXB.o o)
      clear hstep hXB
      rcases Nat.eq_zero_or_pos k with hk0 | hk0
      · subst hk0
        have hh : headS v 0 = quotedS nm ++ [58] := by unfold headS; rw [HGN.o]; simp [HK'.o]
        rw [hh] at HSTEP hL2
        simp only [Nat.zero_mul, Nat.add_zero] at c0 c1 c2 c3 c4 n0
        have hql := quotedS_len nm
        go_wp2_with (first
          | (go_at_call 34; go_must (refine (quoted_calls nm (by omega) B b _ _ (HP.o.alloc _) (by simp only [List.length_append, List.length_cons, List.length_nil] at hLr ⊢; omega) (by simp; omega)).mono ?_); rintro e w2 ⟨rfl, hp2, hb2, hk2⟩; have HP2 := K.mk hp2; have HB2 := K.mk hb2; have HK2 := K.mk hk2; have HV2 := K.mk (Blk.pk (HV.o.alloc _) hk2 hne); have HX2 := K.mk (Blk.pk (Blk.new wr 25 [.int .i64 x.kind, .int .i64 x.num, .string x.text, .slice xAn x.names.length xcn, .slice xA x.items.length xc]) hk2 hwb); clear hp2 hb2 hk2)
          | (go_at_call_of 35 (Value.int IntKind.u8 58); go_must (refine (WriteByte_n 58 58 rfl B b _ _ HP2.o (by simp only [List.length_append, List.length_cons, List.length_nil] at hLr ⊢; omega) (BelowB.size HB2.o (by simp; omega))).mono ?_); rintro e w3 ⟨rfl, hp3, hb3, hk3⟩; have HP3 := K.mk hp3; have HB3 := K.mk hb3; have HK3 := K.mk hk3; have HV3 := K.mk (Blk.pk HV2.o hk3 hne); have HX3 := K.mk (Blk.pk HX2.o hk3 hwb); clear hp3 hb3 hk3; obtain ⟨x0, x1, x2, x3, x4⟩ := HX3.o.five)
          | (go_at_call 22; go_must (refine (IH.o x hmem _ _ _ (rV.frame HXR.o (fun b hb => (((HXB.o _).trans HB2.o).trans HB3.o).block b hb)) HP3.o (HT.o.below (((HXB.o _).trans HB2.o).trans HB3.o) hg) (by simp only [List.length_append, List.length_cons, List.length_nil] at hL2 ⊢; omega) (BelowB.size HB3.o (BelowB.size HB2.o (by simp; omega)))).mono ?_); rintro e w4 ⟨rfl, hp4, hb4, hk4⟩; have HP4 := K.mk hp4; have HB4 := K.mk hb4; have HK4 := K.mk hk4; clear hp4 hb4 hk4))
        go_roundg (v.items.length - 1)
        case measure => omega
        case rel => exact ⟨1, by omega, Nat.le_refl _, by go_num, ⟨by rw [← HSTEP.o]; have h9 := HP4.o; simpa [List.append_assoc] using h9⟩, ⟨(((HXB.o _).trans HB2.o).trans HB3.o).trans HB4.o⟩, ⟨(((HK.o.trans (PK.more (below_a1 _ _))).trans HK2.o).trans HK3.o).trans HK4.o⟩, ⟨Blk.pk HV3.o HK4.o hne⟩⟩
      · have hh : headS v k = [44] ++ (quotedS nm ++ [58]) := by unfold headS; rw [HGN.o]; simp [HK'.o, hk0]
        have hpos : (0 : Int) < (k : Int) := by omega
        rw [hh] at HSTEP hL2
        have hql := quotedS_len nm
        go_wp2_with (first
          | (go_at_call_of 35 (Value.int IntKind.u8 44); go_must (refine (WriteByte_n 44 44 rfl B b _ _ (HP.o.alloc _) (by omega) (by simp; omega)).mono ?_); rintro e w1 ⟨rfl, hp1, hb1, hk1⟩; have HP1 := K.mk hp1; have HB1 := K.mk hb1; have HK1 := K.mk hk1; have HV1 := K.mk (Blk.pk (HV.o.alloc _) hk1 hne); have HX1 := K.mk (Blk.pk (Blk.new wr 25 [.int .i64 x.kind, .int .i64 x.num, .string x.text, .slice xAn x.names.length xcn, .slice xA x.items.length xc]) hk1 hwb); have n1 := HNC.o _ ((HXB.o _).trans hb1); clear hp1 hb1 hk1; obtain ⟨v0, v1, v2, v3, v4⟩ := HV1.o.five)
          | (go_at_call 34; go_must (refine (quoted_calls nm (by omega) B b _ _ HP1.o (by simp only [List.length_append, List.length_cons, List.length_nil] at hLr ⊢; omega) (BelowB.size HB1.o (by simp; omega))).mono ?_); rintro e w2 ⟨rfl, hp2, hb2, hk2⟩; have HP2 := K.mk hp2; have HB2 := K.mk hb2; have HK2 := K.mk hk2; have HV2 := K.mk (Blk.pk HV1.o hk2 hne); have HX2 := K.mk (Blk.pk HX1.o hk2 hwb); clear hp2 hb2 hk2)
          | (go_at_call_of 35 (Value.int IntKind.u8 58); go_must (refine (WriteByte_n 58 58 rfl B b _ _ HP2.o (by simp only [List.length_append, List.length_cons, List.length_nil] at hLr ⊢; omega) (BelowB.size HB2.o (BelowB.size HB1.o (by simp; omega)))).mono ?_); rintro e w3 ⟨rfl, hp3, hb3, hk3⟩; have HP3 := K.mk hp3; have HB3 := K.mk hb3; have HK3 := K.mk hk3; have HV3 := K.mk (Blk.pk HV2.o hk3 hne); have HX3 := K.mk (Blk.pk HX2.o hk3 hwb); clear hp3 hb3 hk3; obtain ⟨x0, x1, x2, x3, x4⟩ := HX3.o.five)
          | (go_at_call 22; go_must (refine (IH.o x hmem _ _ _ (rV.frame HXR.o (fun b hb => ((((HXB.o _).trans HB1.o).trans HB2.o).trans HB3.o).block b hb)) HP3.o (HT.o.below ((((HXB.o _).trans HB1.o).trans HB2.o).trans HB3.o) hg) (by simp only [List.length_append, List.length_cons, List.length_nil] at hL2 ⊢; omega) (BelowB.size HB3.o (BelowB.size HB2.o (BelowB.size HB1.o (by simp; omega))))).mono ?_); rintro e w4 ⟨rfl, hp4, hb4, hk4⟩; have HP4 := K.mk hp4; have HB4 := K.mk hb4; have HK4 := K.mk hk4; clear hp4 hb4 hk4))
        go_roundg (v.items.length - (k + 1))
        case measure => omega
        case rel => exact ⟨k + 1, by omega, Nat.le_refl _, by go_num, ⟨by rw [← HSTEP.o]; have h9 := HP4.o; simpa [List.append_assoc] using h9⟩, ⟨((((HXB.o _).trans HB1.o).trans HB2.o).trans HB3.o).trans HB4.o⟩, ⟨((((HK.o.trans (PK.more (below_a1 _ _))).trans HK1.o).trans HK2.o).trans HK3.o).trans HK4.o⟩, ⟨Blk.pk HV3.o HK4.o hne⟩⟩
    · have hge' : ¬ (k : Int) < (v.items.length : Int) := by omega
      have hkk : v.items.length = k := by omega
      go_wp2_with fail
      go_region_with (first
        | (go_at_call 35; refine (WriteByte_n 125 125 rfl B b _ _ HP.o.drew (by omega) hBr).mono ?_; rintro e w2 ⟨rfl, hp2, hb2, hk2⟩; have HP2 := K.mk hp2; have HB2 := K.mk hb2; have HK2 := K.mk hk2; clear hp2 hb2 hk2))
      go_wp2_with fail
      go_end0
      refine ⟨rfl, ?_, HB.o.drew.trans HB2.o, HK.o.drew.trans HK2.o⟩
      rw [HSL.o, hkk]
      have h9 := HP2.o
      simpa [List.append_assoc] using h9

end Go.Proofs.YtjiokidindnolaaDoor
