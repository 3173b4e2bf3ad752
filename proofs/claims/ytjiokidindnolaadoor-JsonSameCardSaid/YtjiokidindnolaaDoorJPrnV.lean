/- Walks: value of the printer, Print of the program. -/
import Derived.Test.YtjiokidindnolaaDoorJPrnQ
import Derived.Test.YtjiokidindnolaaDoorJShowS
import Derived.Test.YtjiokidindnolaaDoorShelfF
import Derived.WalkSmall
import Derived.Sort.Grow


import Derived.WalkKit
import Derived.Deep.QuietTactic
import Derived.BigQuiet
import Derived.Outline
import Derived.Deep.DeepMust
import Derived.Deep.CutBlock
import Derived.Deep.DeepCutAuto
import Derived.Deep.RegionWith
import Derived.WalkSpells
import Derived.WalkLawsBesides
import Derived.Test.YtjiokidindnolaaDoorMu
import Derived.Test.YtjiokidindnolaaDoorProg
set_option linter.unusedVariables false
set_option linter.unusedSimpArgs false
namespace Go.Proofs.YtjiokidindnolaaDoor
open Go.RowKit Go.Mu

theorem PB.more {B b : Nat} {l : List UInt8} {w w' : World} (h : PB B b l w) (hb : Below w.heap.size w w') : PB B b l w' := by
  have hg : w.grownBy w' none := ⟨hb.os, hb.tape, hb.output, hb.size, fun k hk _ => hb.block k hk⟩
  have one : ∀ p, Lib.BuilderAtF 42 5 B b p (Lib.byteCells l) w → Lib.BuilderAtF 42 5 B b p (Lib.byteCells l) w' := fun p ⟨h1, v, h2, h3, h4⟩ => by
    have hlt : b < w.heap.size := (Array.getElem?_eq_some_iff.1 h2).1
    refine ⟨h1, v, (hb.block b hlt).trans h2, h3.kept hg ?_, h4⟩
    cases hv : v.ownBlock with
    | none => exact .inl rfl
    | some k => right; simp
  exact h.elim (fun x => .inl (one _ x)) (fun x => .inr (one _ x))
theorem PB.alloc {B b : Nat} {l : List UInt8} {w : World} (h : PB B b l w) (o : Obj) : PB B b l (w.alloc o) := h.more (below_a1 w o)
/-- The table that FormatInt reads. -/
def PT (w : World) : Prop := Lib.TabIs Tryd.prog w "internal/strconv.uint64pow10" .u64 Lib.pow10Tab
theorem PT.below {B : Nat} {w w' : World} (h : PT w) (hb : Below B w w') (hg : 2 < B) : PT w' := var?_below hb (by kernel_rfl) hg h
theorem below_grow {B : Nat} (w : World) (k : Nat) (os : Array Obj) : Below w.heap.size w (Go.Sort.grow (w.drewN k) os) := by
  refine ⟨rfl, rfl, rfl, by simp, fun i hi => ?_⟩
  rw [Go.Sort.heap_grow_old _ _ (by simpa using hi)]; rfl
theorem PK.more {b : Nat} {w w' : World} (hb : Below w.heap.size w w') : PK b w w' := fun k o hk _ _ => by
  rw [hb.block k (Array.getElem?_eq_some_iff.1 hk).1]; exact hk
/-- A block of a value's own cells is kept. -/
theorem Blk.pk {w w' : World} {g b : Nat} {cs : List Value} (h : Blk w g 25 cs) (hk : PK b w w') (hne : g ≠ b) : Blk w' g 25 cs :=
  hk g _ h (by simpa using hne) (fun c fz he => by injection he with _ h2 _; exact absurd h2 (by decide))

theorem below_down {B B' : Nat} {w w' : World} (h : Below B' w w') (hB : B ≤ B') : Below B w w' := ⟨h.os, h.tape, h.output, h.size, fun k hk => h.block k (by omega)⟩

/-- What value leaves behind. -/
def PQ (B b : Nat) (l : List UInt8) (w : World) (e : Ending) (w' : World) : Prop := e = .returned (.tuple #[]) ∧ PB B b l w' ∧ Below B w w' ∧ PK b w w'

theorem FormatInt_b (n : Int) (h0 : -9223372036854775808 ≤ n) (h1 : n ≤ 9223372036854775807) (w : World) (hT : PT w) :
    Calls Tryd.prog 33 #[.int .i64 n, .int .i64 10] w fun e w' => e = .returned (.string (bs (Lib.itoa n))) ∧ Below w.heap.size w w' := by
  refine (Tryd.strconv_FormatInt_10 n h0 h1 w hT).mono ?_
  rintro e w' ⟨rfl, k, os, rfl⟩
  exact ⟨rfl, below_grow (B := 0) w k os⟩

set_option maxRecDepth 100000 in
set_option maxHeartbeats 8000000 in
theorem value_int (m : Nat) (v : JV) (cs : List Value) (B b : Nat) (l : List UInt8) (w : World) (h : RV w (fun k => k < B) v cs) (hk3 : v.kind = 3) (hP : PB B b l w) (hT : PT w) (hg : 2 < B) (hl : l.length ≤ 80000000000000) (hBw : B ≤ w.heap.size) :
    Calls Tryd.prog 22 #[.pointer (some ⟨b, 0, none⟩), .agg cs.toArray] w (PQ B b (l ++ showS (m + 1) v) w) := by
  obtain ⟨An, cn, Ai, ci, rfl, hnm, hit, hk, hn, ht⟩ := h.wide
  have hilen := hit.len_le
  have hnlen := hnm.len_le
  have hs : showS (m + 1) v = Lib.itoa v.num := by unfold showS; rw [hk3]; rfl
  have HS := K.mk hs
  have hil := Lib.itoa_length_le v.num hn.1 hn.2
  have HP := K.mk (hP.more (below_a1 w (.cells #[.int .i64 3, .int .i64 v.num, .string v.text, .slice An v.names.length cn, .slice Ai v.items.length ci] 25)))
  have HF := K.mk (fun W (hb : Below B w W) => FormatInt_b v.num hn.1 hn.2 W (hT.below hb hg))
  rw [hk3]
  clear hnm hit h hs hP hT hk3 hk
  go_enter Tryd.func22, Tryd.ntmps22
  go_wp2_with fail
  go_region_with (first
    | (go_at_call 33; refine (HF.o _ (((Below.refl B w).alloc hBw _).drew)).mono ?_; rintro e w2 ⟨rfl, hg2⟩; have HB2 := K.mk (((Below.refl B w).alloc hBw (.cells #[.int .i64 3, .int .i64 v.num, .string v.text, .slice An v.names.length cn, .slice Ai v.items.length ci] 25)).drew); have HG2 := K.mk hg2; clear hg2)
    | (go_at_call 32; refine (WriteString_n _ (Lib.itoa v.num) rfl B b _ _ (HP.o.drew.more HG2.o) (by omega) (by have := HG2.o.size; have := HB2.o.size; omega)).mono ?_; rintro e w3 ⟨rfl, hp3, hb3, hk3⟩; have HP3 := K.mk hp3; have HB3 := K.mk hb3; have HK3 := K.mk hk3; clear hp3 hb3 hk3))
  go_wp2_with fail
  go_end0
  refine ⟨rfl, by rw [HS.o]; exact HP3.o, ?_, ?_⟩
  · exact (HB2.o.trans (below_down HG2.o (by have := HB2.o.size; simp; omega))).trans HB3.o
  · exact ((PK.more (below_a1 _ _)).drew.trans (PK.more HG2.o)).trans HK3.o

set_option maxRecDepth 100000 in
set_option maxHeartbeats 8000000 in
theorem value_str (m : Nat) (v : JV) (cs : List Value) (B b : Nat) (l : List UInt8) (w : World) (h : RV w (fun k => k < B) v cs) (hk4 : v.kind = 4) (ht60 : v.text.size ≤ 60) (hP : PB B b l w) (hl : l.length ≤ 80000000000000) (hBw : B ≤ w.heap.size) :
    Calls Tryd.prog 22 #[.pointer (some ⟨b, 0, none⟩), .agg cs.toArray] w (PQ B b (l ++ showS (m + 1) v) w) := by
  obtain ⟨An, cn, Ai, ci, rfl, hnm, hit, hk, hn, ht⟩ := h.wide
  have hilen := hit.len_le
  have hnlen := hnm.len_le
  have hs : showS (m + 1) v = quotedS v.text := by unfold showS; rw [hk4]; rfl
  have HS := K.mk hs
  have HP := K.mk (hP.more (below_a1 w (.cells #[.int .i64 4, .int .i64 v.num, .string v.text, .slice An v.names.length cn, .slice Ai v.items.length ci] 25)))
  rw [hk4]
  clear hnm hit h hs hP hk4 hk
  go_enter Tryd.func22, Tryd.ntmps22
  go_wp2_with (go_at_call 34; go_must (refine (quoted_calls v.text (by omega) B b l _ HP.o (by omega) (by simp; omega)).mono ?_); rintro e w3 ⟨rfl, hp3, hb3, hk3⟩; have HP3 := K.mk hp3; have HB3 := K.mk hb3; have HK3 := K.mk hk3; clear hp3 hb3 hk3)
  go_end0
  exact ⟨rfl, by rw [HS.o]; exact HP3.o, ((Below.refl B w).alloc hBw _).trans HB3.o, (PK.more (below_a1 _ _)).trans HK3.o⟩

set_option maxRecDepth 100000 in
set_option maxHeartbeats 8000000 in
theorem value_word (m : Nat) (v : JV) (cs : List Value) (B b : Nat) (l : List UInt8) (w : World) (h : RV w (fun k => k < B) v cs) (hk012 : v.kind = 0 ∨ v.kind = 1 ∨ v.kind = 2) (hP : PB B b l w) (hl : l.length ≤ 80000000000000) (hBw : B ≤ w.heap.size) :
    Calls Tryd.prog 22 #[.pointer (some ⟨b, 0, none⟩), .agg cs.toArray] w (PQ B b (l ++ showS (m + 1) v) w) := by
  obtain ⟨An, cn, Ai, ci, rfl, hnm, hit, hk, hn, ht⟩ := h.wide
  have hilen := hit.len_le
  have hnlen := hnm.len_le
  have hs : ∀ k : Int, v.kind = k → showS (m + 1) v = if k = 0 then [110, 117, 108, 108] else if k = 1 then [102, 97, 108, 115, 101] else if k = 2 then [116, 114, 117, 101] else showS (m + 1) v := fun k hk => by
    conv => lhs; unfold showS
    rw [hk]
    repeat' split
    all_goals first | rfl | omega
  have HS := K.mk hs
  clear hnm hit h hs hk
  have HP0 := hP
  rcases hk012 with hk | hk | hk
  · have HE := K.mk (show showS (m + 1) v = [110, 117, 108, 108] by rw [HS.o _ hk]; rfl)
    have HP := K.mk (hP.more (below_a1 w (.cells #[.int .i64 0, .int .i64 v.num, .string v.text, .slice An v.names.length cn, .slice Ai v.items.length ci] 25)))
    rw [hk]
    clear hk HS hP HP0
    go_enter Tryd.func22, Tryd.ntmps22
    go_wp2_with fail
    go_region_with (first
      | (go_at_call 32; refine (WriteString_n _ [110, 117, 108, 108] rfl B b _ _ (PB.alloc HP.o.drew _) (by simp only [List.length_cons, List.length_nil]; omega) (by simp; omega)).mono ?_; rintro e w3 ⟨rfl, hp3, hb3, hk3⟩; have HP3 := K.mk hp3; have HB3 := K.mk hb3; have HK3 := K.mk hk3; clear hp3 hb3 hk3))
    all_goals
      go_wp2_with fail
      go_end0
      exact ⟨rfl, by rw [HE.o]; exact HP3.o, ((((Below.refl B w).alloc hBw _).drew).alloc (by simp; omega) _).trans HB3.o, (((PK.more (below_a1 _ _)).drew).trans (PK.more (below_a1 _ _))).trans HK3.o⟩
  · have HE := K.mk (show showS (m + 1) v = [102, 97, 108, 115, 101] by rw [HS.o _ hk]; rfl)
    have HP := K.mk (hP.more (below_a1 w (.cells #[.int .i64 1, .int .i64 v.num, .string v.text, .slice An v.names.length cn, .slice Ai v.items.length ci] 25)))
    rw [hk]
    clear hk HS hP HP0
    go_enter Tryd.func22, Tryd.ntmps22
    go_wp2_with fail
    go_region_with (first
      | (go_at_call 32; refine (WriteString_n _ [102, 97, 108, 115, 101] rfl B b _ _ (PB.alloc HP.o.drew _) (by simp only [List.length_cons, List.length_nil]; omega) (by simp; omega)).mono ?_; rintro e w3 ⟨rfl, hp3, hb3, hk3⟩; have HP3 := K.mk hp3; have HB3 := K.mk hb3; have HK3 := K.mk hk3; clear hp3 hb3 hk3))
    all_goals
      go_wp2_with fail
      go_end0
      exact ⟨rfl, by rw [HE.o]; exact HP3.o, ((((Below.refl B w).alloc hBw _).drew).alloc (by simp; omega) _).trans HB3.o, (((PK.more (below_a1 _ _)).drew).trans (PK.more (below_a1 _ _))).trans HK3.o⟩
  · have HE := K.mk (show showS (m + 1) v = [116, 114, 117, 101] by rw [HS.o _ hk]; rfl)
    have HP := K.mk (hP.more (below_a1 w (.cells #[.int .i64 2, .int .i64 v.num, .string v.text, .slice An v.names.length cn, .slice Ai v.items.length ci] 25)))
    rw [hk]
    clear hk HS hP HP0
    go_enter Tryd.func22, Tryd.ntmps22
    go_wp2_with fail
    go_region_with (first
      | (go_at_call 32; refine (WriteString_n _ [116, 114, 117, 101] rfl B b _ _ (PB.alloc HP.o.drew _) (by simp only [List.length_cons, List.length_nil]; omega) (by simp; omega)).mono ?_; rintro e w3 ⟨rfl, hp3, hb3, hk3⟩; have HP3 := K.mk hp3; have HB3 := K.mk hb3; have HK3 := K.mk hk3; clear hp3 hb3 hk3))
    all_goals
      go_wp2_with fail
      go_end0
      exact ⟨rfl, by rw [HE.o]; exact HP3.o, ((((Below.refl B w).alloc hBw _).drew).alloc (by simp; omega) _).trans HB3.o, (((PK.more (below_a1 _ _)).drew).trans (PK.more (below_a1 _ _))).trans HK3.o⟩
end Go.Proofs.YtjiokidindnolaaDoor
