/- Walks: turned, Key, Compound of the keys. Walks: Compound of the keys, of formed values. -/
import Derived.Test.YtgcbkecpplhknaaDoorEKeyUX
import Derived.Test.YtgcbkecpplhknaaDoorJFormC
import Derived.Laws.MakeOwn


import Derived.WalkKit
import Derived.Deep.QuietTactic
import Derived.BigQuiet
import Derived.Outline
import Derived.Deep.DeepMust
import Derived.Deep.CutBlock
import Derived.Deep.DeepCutAuto
import Derived.Deep.RegionWith
import Derived.WalkSpells
import Derived.WalkLawsBesides
import Derived.Test.YtgcbkecpplhknaaDoorMu
import Derived.Test.YtgcbkecpplhknaaDoorProg
set_option linter.unusedVariables false
set_option linter.unusedSimpArgs false
namespace Go.Proofs.YtgcbkecpplhknaaDoor
open Go.RowKit Go.Mu
end Go.Proofs.YtgcbkecpplhknaaDoor
namespace Go.Proofs.YtgcbkecpplhknaaDoor
open Go.RowKit Go.Mu

def turnB (c : UInt8) : UInt8 := 255 - c
theorem turnB_int (c : UInt8) : ((turnB c).toNat : Int) = 255 - (c.toNat : Int) := by
  have h := c.toNat_lt
  unfold turnB
  have h2 : (255 - c).toNat = 255 - c.toNat := by
    have : c ≤ 255 := UInt8.le_iff_toNat_le.2 (show c.toNat ≤ 255 by omega)
    rw [UInt8.toNat_sub_of_le _ _ this]; rfl
  rw [h2]; omega
/-- The first k turned, the others zero. -/
def turnC (l : List UInt8) (k : Nat) : List Value := ((l.take k).map fun c => Value.int .u8 ((turnB c).toNat : Int)) ++ List.replicate (l.length - k) (.int .u8 0)
theorem turnC_len (l : List UInt8) (k : Nat) (h : k ≤ l.length) : (turnC l k).length = l.length := by unfold turnC; simp; omega
theorem turnC_zero (l : List UInt8) : turnC l 0 = List.replicate l.length (.int .u8 0) := by simp [turnC]
theorem turnC_all (l : List UInt8) : turnC l l.length = (l.map turnB).map fun b => Value.int .u8 (b.toNat : Int) := by simp [turnC]
theorem turnC_set (l : List UInt8) (k : Nat) (c : UInt8) (h : l[k]? = some c) : (turnC l k).set k (.int .u8 ((turnB c).toNat : Int)) = turnC l (k + 1) := by
  have hk := (List.getElem?_eq_some_iff.1 h).1
  unfold turnC
  rw [List.take_add_one, h, show l.length - k = (l.length - (k + 1)) + 1 by omega, List.replicate_succ, List.set_append_right _ _ (by simp; omega)]
  simp [Nat.min_eq_left (Nat.le_of_lt hk)]
theorem made_byte (n : Nat) : madeCells (Value.int .u8 0).cells n = (List.replicate n (Value.int .u8 0)).toArray := by
  unfold madeCells
  apply Array.ext
  · simp
  · intro i h1 h2
    simp [Value.cells]
    have : i % 1 = 0 := Nat.mod_one i
    simp [Nat.mod_one]

set_option maxRecDepth 100000 in
set_option maxHeartbeats 4000000 in
theorem turned_calls (l : List UInt8) (hlen : l.length ≤ 99000000000) (A : Option Addr) (c : Nat) (S : Blocks) (w : World) (h : SliceR (rByte.R w S) 1 w S l (.slice A l.length c)) : Calls Tryd.prog 83 #[.slice A l.length c] w (BytesQ (l.map turnB) w) := by
  obtain ⟨i0, hi, hz0, hz1, hz2⟩ := byte_info
  have HL := K.mk h
  clear h
  have hmk : ∀ W, (Instr.makeSlice 50 (.int .i64 l.length) (.int .i64 l.length)).run Tryd.prog W = .ok (.slice (some ⟨W.heap.size, 0, none⟩) l.length l.length) (W.alloc (.cells (turnC l 0).toArray 5)) := fun W => by
    have h := run_make (P := Tryd.prog) W 50 5 i0 (.int .u8 0) Tryd.underlying50 hi hz0 .i64 .i64 l.length l.length (by omega) (by omega) (by rw [hz2]; omega) (by omega)
    rw [hz1] at h
    simp only [Int.toNat_natCast, Nat.mul_one] at h
    rw [made_byte] at h
    rw [turnC_zero]
    exact h
  generalize hn : l.length = n at *
  have HN := K.mk hn
  clear hn
  go_enter Tryd.func83, Tryd.ntmps83
  go_wp2_with fail
  go_loopg [11] n (fun g s11 wr => ∃ k : Nat, k ≤ n ∧ n - k ≤ g ∧ s11 = .int .i64 k ∧ K (Blk wr w.heap.size 5 (turnC l k)) ∧ K (Below w.heap.size w wr))
  case atStart => exact ⟨0, Nat.zero_le _, Nat.le_refl _, rfl, ⟨Blk.new _ _ _⟩, ⟨below_a1 _ _⟩⟩
  case round =>
    clear hmk
    obtain ⟨k, hk1, hg, rfl, HV, HB⟩ := hrel
    have hsz := HV.o.lt
    rcases Nat.lt_or_ge k n with hlt | hge
    · have hlt' : (k : Int) < (n : Int) := by omega
      obtain ⟨b, o, x, xcs, rfl, hS, hb, hx, rfl, hcx⟩ := HL.o.at1 k (by rw [HN.o]; exact hlt)
      have c0 := (hcx.below HB.o).one
      have HX := K.mk (turnC_set l k x hx)
      have HY := K.mk (turnB_int x)
      have q : bits .xor .u8 IntKind.u8.max (x.toNat : Int) = 255 - (x.toNat : Int) := xor_byte x
      have hc : ∃ u, wr.cell? ⟨w.heap.size, k, none⟩ = some u := ⟨_, HV.o.cell k (List.getElem?_eq_getElem (by rw [turnC_len _ _ (by rw [HN.o]; exact hk1), HN.o]; exact hlt))⟩
      obtain ⟨u, hu⟩ := hc
      have hf := HV.o.frozen k
      clear hx hcx
      go_wp2_with fail
      go_roundg (n - (k + 1))
      case measure => omega
      case rel =>
        refine ⟨k + 1, by omega, Nat.le_refl _, by go_num, ⟨?_⟩, ⟨HB.o.setCell (p := ⟨w.heap.size, k, none⟩) (Nat.le_refl _) _⟩⟩
        rw [← HX.o, HY.o]
        exact HV.o.set _ _
    · have hlt' : ¬ (k : Int) < (n : Int) := by omega
      have hkk : k = n := by omega
      subst hkk
      go_wp2_with fail
      go_ret
      have h2 : (l.map turnB).length = k := by simp [HN.o]
      have hfin := OwnL.ofBlk (r := rByte) (e := 5) (base := w.heap.size) (w := wr) (xs := l.map turnB) (g := w.heap.size) ((l.map turnB).map fun b => [.int .u8 (b.toNat : Int)]) (by simp) (fun j x cs hx hc => by
        rw [List.getElem?_map, hx] at hc
        injection hc with hc
        exact hc.symm) (by rw [flat_byte, ← turnC_all, HN.o]; exact HV.o) (Nat.le_refl _) (by rw [h2]; unfold maxLen; omega)
      rw [h2] at hfin
      exact bytesQ_own hfin rfl HB.o

/-- What Key leaves of a formed value. -/
def KeyQ (l : List UInt8) (w : World) (e : Ending) (w' : World) : Prop := ∃ A c, e = .returned (.tuple #[.slice A l.length c, .int .i64 0]) ∧ OwnL rByte 5 w.heap.size w' l (.slice A l.length c) ∧ Below w.heap.size w w'
theorem below_grown {w w' : World} {r : Option Nat} {B : Nat} (h : w.grownBy w' r) (hr : ∀ k, r = some k → B ≤ k) (hB : B ≤ w.heap.size) : Below B w w' :=
  ⟨h.os, h.tape, h.output, h.size, fun k hk => h.block k (by omega) (fun he => by have := hr k he.symm; omega)⟩
theorem keyQ_own {l : List UInt8} {w w' : World} {v : Value} (h : OwnL rByte 5 w.heap.size w' l v) (hb : Below w.heap.size w w') : KeyQ l w (.returned (.tuple #[v, .int .i64 0])) w' := by
  obtain ⟨A, c, rfl⟩ := h.form
  exact ⟨A, c, rfl, h, hb⟩

set_option maxRecDepth 100000 in
set_option maxHeartbeats 4000000 in
theorem keysKey_calls (v : JV) (cs : List Value) (S : Blocks) (w : World) (h : RV w S v cs) (hT : Tabs w) (hf : formS 6 v = true) : Calls Tryd.prog 82 #[.agg cs.toArray] w (KeyQ (keyS 6 v) w) := by
  have HF := K.mk (fun W (hW : Below w.heap.size w W) => json_Formed_calls v cs S W (rV.below h hW) (hT.below hW))
  have HP := K.mk (fun W (hW : Below w.heap.size w W) => put_calls 6 (Nat.le_refl _) v cs w.heap.size [] (.slice none 0 0) W (rV.mono (rV.below h hW) (fun k _ hk => by simp [Value.ownBlock] at hk)) hf (OwnL.nil _ _ _ _) hW.size (by have := key_small (Nat.le_refl _) hf; simp; omega))
  rw [hf] at HF
  obtain ⟨An, cn, Ai, ci, rfl, hnm, hit, _, hn, ht⟩ := h.wide
  clear h hnm hit hn hT hf
  go_enter Tryd.func82, Tryd.ntmps82
  go_wp2_with (first
    | (go_at_call 24; go_must (refine (HF.o _ (below_a1 _ _)).mono ?_); rintro e w1 ⟨rfl, hb1⟩; have HB := K.mk (below2 (below_a1 _ _) hb1); have HV := K.mk ((Blk.new w _ _).below hb1 (by simp)); obtain ⟨v0, v1, v2, v3, v4⟩ := HV.o.five; clear hb1)
    | (go_at_call 116; go_must (refine (HP.o _ HB.o).mono ?_); rintro e w2 ⟨v', rfl, hown, hg, _⟩; have HO := K.mk hown; have HG := K.mk hg; clear hown hg))
  go_ret2
  exact keyQ_own HO.o (HB.o.trans (below_grown HG.o (fun k hk => by simp [Value.ownBlock] at hk) HB.o.size))
end Go.Proofs.YtgcbkecpplhknaaDoor

namespace Go.Proofs.YtgcbkecpplhknaaDoor
open Go.RowKit Go.Mu

/-- A value's part of a compound key. -/
def partS (v : JV) (d : Bool) : List UInt8 := if d = true then (keyS 6 v).map turnB else keyS 6 v
def compS : List (JV × Bool) → List UInt8 := List.flatMap fun p => partS p.1 p.2
theorem compS_snoc {l : List (JV × Bool)} {k : Nat} {p : JV × Bool} (h : l[k]? = some p) : compS (l.take k) ++ partS p.1 p.2 = compS (l.take (k + 1)) := by
  unfold compS; rw [List.take_add_one, h]; simp
theorem part_len {v : JV} (hf : formS 6 v = true) (d : Bool) : (partS v d).length ≤ 30000000000 := by
  have := key_small (Nat.le_refl _) hf
  unfold partS; split <;> simp <;> omega
theorem comp_len : ∀ (l : List (JV × Bool)), (∀ p ∈ l, formS 6 p.1 = true) → (compS l).length ≤ l.length * 30000000000
  | [], _ => by simp [compS]
  | p :: l, h => by
    have h1 := part_len (h p (List.mem_cons_self ..)) p.2
    have h2 := comp_len l (fun q hq => h q (List.mem_cons_of_mem _ hq))
    have : compS (p :: l) = partS p.1 p.2 ++ compS l := by simp [compS]
    rw [this, List.length_append, List.length_cons, Nat.add_mul]; omega
/-- What Compound leaves of formed values. -/
def CompQ (l : List UInt8) (w : World) (e : Ending) (w' : World) : Prop := Below w.heap.size w w' ∧
  if 200 < l.length then e = .returned (.tuple #[.slice none 0 0, .int .i64 3]) else ∃ A c, e = .returned (.tuple #[.slice A l.length c, .int .i64 0]) ∧ OwnL rByte 5 w.heap.size w' l (.slice A l.length c)

theorem compQ_long {l : List UInt8} {w w' : World} (h : 200 < l.length) (hb : Below w.heap.size w w') : CompQ l w (.returned (.tuple #[.slice none 0 0, .int .i64 3])) w' := ⟨hb, by rw [if_pos h]⟩
theorem compQ_ok {l : List UInt8} {m : Nat} {w w' : World} {A : Option Addr} {c : Nat} (hm : l.length = m) (h : ¬ 200 < m) (ho : OwnL rByte 5 w.heap.size w' l (.slice A m c)) (hb : Below w.heap.size w w') : CompQ l w (.returned (.tuple #[.slice A m c, .int .i64 0])) w' := by
  subst hm
  exact ⟨hb, by rw [if_neg h]; exact ⟨A, c, rfl, ho⟩⟩
theorem below_lo {B B' : Nat} {w w' : World} (h : Below B' w w') (hB : B ≤ B') : Below B w w' := ⟨h.os, h.tape, h.output, h.size, fun k hk => h.block k (by omega)⟩
set_option maxRecDepth 100000 in
set_option maxHeartbeats 4000000 in
theorem Compound_calls (vs : List JV) (ds : List Bool) (n : Nat) (hvl : vs.length = n) (hdl : ds.length = n) (hn4 : n ≤ 1000) (hfm : ∀ v ∈ vs, formS 6 v = true) (A A' : Option Addr) (c c' : Nat) (S S' : Blocks) (w : World) (h : SliceR (RV w S) 5 w S vs (.slice A n c)) (h' : SliceR (rBool.R w S') 1 w S' ds (.slice A' n c')) (hT : Tabs w) :
    Calls Tryd.prog 53 #[.slice A n c, .slice A' n c'] w (CompQ (compS (vs.zip ds)) w) := by
  obtain ⟨i0, hi, hz0, hz1, hz2⟩ := byte_info
  have HIT := K.mk h
  have HDS := K.mk h'
  have HVL := K.mk hvl
  have HDL := K.mk hdl
  have HFM := K.mk hfm
  have HT := K.mk hT
  have HCL := K.mk (fun k => show (compS ((vs.zip ds).take k)).length ≤ 30000000000000 by
    have h1 := comp_len ((vs.zip ds).take k) (fun p hp => hfm p.1 (by have := List.mem_of_mem_take hp; exact (List.of_mem_zip this).1))
    have h2 : ((vs.zip ds).take k).length ≤ n := by rw [List.length_take, List.length_zip]; omega
    have h3 : ((vs.zip ds).take k).length * 30000000000 ≤ n * 30000000000 := Nat.mul_le_mul_right _ h2
    omega)
  clear h h' hvl hdl hfm hT
  go_enter Tryd.func53, Tryd.ntmps53
  go_wp2_with fail
  go_loopg [6, 13] n (fun g s6 s13 wr => ∃ k : Nat, k ≤ n ∧ n - k ≤ g ∧ s13 = .int .i64 k ∧ K (OwnL rByte 5 w.heap.size wr (compS ((vs.zip ds).take k)) s6) ∧ K (Below w.heap.size w wr))
  case atStart => exact ⟨0, Nat.zero_le _, Nat.le_refl _, rfl, ⟨by simpa [compS] using OwnL.nil _ _ _ _⟩, ⟨Below.refl _ _⟩⟩
  case round =>
    obtain ⟨k, hk1, hg, rfl, HO, HB⟩ := hrel
    have hws := HB.o.size
    rcases Nat.lt_or_ge k n with hlt | hge
    · have hlt' : (k : Int) < (n : Int) := by omega
      obtain ⟨b, o, x, xcs, rfl, hS, hbb, hx, hRx, hcx⟩ := HIT.o.at k (by rw [HVL.o]; exact hlt)
      obtain ⟨b', o', d, dcs, rfl, hS', hbb', hd, rfl, hcd⟩ := HDS.o.at1 k (by rw [HDL.o]; exact hlt)
      have HZ := K.mk (compS_snoc (l := vs.zip ds) (k := k) (p := (x, d)) (by rw [List.getElem?_zip_eq_some]; exact ⟨hx, hd⟩))
      have hfx := HFM.o x (List.mem_of_getElem? hx)
      have HC := K.mk (fun W (hW : Below w.heap.size w W) => keysKey_calls x xcs S W (rV.below hRx hW) (HT.o.below hW) hfx)
      have HPL := K.mk (part_len hfx d)
      have HKL := K.mk (key_small (Nat.le_refl _) hfx)
      have HCD := K.mk hcd
      obtain ⟨xAn, xcn, xA, xc, rfl, _⟩ := hRx.wide
      obtain ⟨c0, c1, c2, c3, c4⟩ := (hcx.below HB.o).five
      have HL := K.mk (show (compS ((vs.zip ds).take k)).length + (keyS 6 x).length ≤ 70000000000000 by have := HCL.o k; have := HKL.o; omega)
      clear hx hd hcx hcd hRx hfx
      have hd2 : d = true ∨ d = false := by cases d <;> simp
      rcases hd2 with rfl | rfl
      · obtain ⟨tl, htl⟩ : ∃ tl, partS x true = tl := ⟨_, rfl⟩
        have HTN := K.mk (fun A c S W (h : SliceR (rByte.R W S) 1 W S (keyS 6 x) (.slice A (keyS 6 x).length c)) => show Calls Tryd.prog 83 #[.slice A (keyS 6 x).length c] W (BytesQ tl W) from htl ▸ turned_calls (keyS 6 x) (by have := HKL.o; omega) A c S W h)
        have HLT := K.mk (show tl.length = (keyS 6 x).length by rw [← htl]; show ((keyS 6 x).map turnB).length = _; simp)
        have HL2 := K.mk (show (compS ((vs.zip ds).take k)).length + tl.length ≤ 70000000000000 by rw [HLT.o]; exact HL.o)
        rw [show partS (x, true).1 (x, true).2 = tl from htl] at HZ
        clear htl
        go_wp2_with (first
          | (go_at_call 82; go_must ((refine (HC.o _ (HB.o.alloc HB.o.size _)).mono ?_; rintro e w1 ⟨A1, d1, rfl, HY, hb1⟩; have HY1 := K.mk HY; have HO1 := K.mk ((HO.o.alloc _).more hb1); have HB1 := K.mk ((HB.o.alloc HB.o.size _).trans (below_lo hb1 (by have := HB.o.size; simp; omega))); have c9 := (HCD.o.below HB1.o).one; have hws1 := HB1.o.size; clear hb1 HY)))
          | (go_at_call 83; go_must ((refine (HTN.o A1 d1 _ _ (HY1.o.slice (by have := HKL.o; unfold strMax; omega))).mono ?_; rintro e w2 ⟨A2, d2, rfl, HY, hb2⟩; have HY2 := K.mk HY; have HO2 := K.mk (HO1.o.more hb2); have HB2 := K.mk (below2 HB1.o hb2); have hws2 := HB2.o.size; clear hb2 HY)))
          | (at_builtin; go_must (refine wpList_append_all rByte flat_Byte rfl _ _ 50 rfl w.heap.size 5 i0 (.int .u8 0) 1 Tryd.underlying50 hi hz0 hz1 hz2 rfl (by decide) _ _ (by rfl) HO2.o (tl) (fun _ => True) _ _ (by rfl) (HY2.o.slice (by have := HKL.o; rw [HLT.o]; unfold strMax; omega)) (by have := HL2.o; unfold maxLen; omega) (by have := HL2.o; omega) (by omega) ?_)))
        intro v5 w5 hown' hgrow hat
        have HO5 := K.mk (hown'.cast (show _ = compS ((vs.zip ds).take (k + 1)) by rw [← HZ.o]))
        have HB5 := K.mk (HB2.o.grown hgrow (by omega) (fun q hq => (HO2.o.lt q hq).1))
        clear hown' hgrow hat
        go_wp2_with fail
        go_roundg (n - (k + 1))
        case measure => omega
        case rel => exact ⟨k + 1, by omega, Nat.le_refl _, by go_num, HO5, HB5⟩
      · rw [show partS (x, false).1 (x, false).2 = keyS 6 x from rfl] at HZ
        go_wp2_with (first
          | (go_at_call 82; go_must ((refine (HC.o _ (HB.o.alloc HB.o.size _)).mono ?_; rintro e w1 ⟨A1, d1, rfl, HY, hb1⟩; have HY1 := K.mk HY; have HO2 := K.mk ((HO.o.alloc _).more hb1); have HB2 := K.mk ((HB.o.alloc HB.o.size _).trans (below_lo hb1 (by have := HB.o.size; simp; omega))); have c9 := (HCD.o.below HB2.o).one; have hws2 := HB2.o.size; clear hb1 HY)))
          | (at_builtin; go_must (refine wpList_append_all rByte flat_Byte rfl _ _ 50 rfl w.heap.size 5 i0 (.int .u8 0) 1 Tryd.underlying50 hi hz0 hz1 hz2 rfl (by decide) _ _ (by rfl) HO2.o (keyS 6 x) (fun _ => True) _ _ (by rfl) (HY1.o.slice (by have := HKL.o; unfold strMax; omega)) (by have := HL.o; unfold maxLen; omega) (by have := HL.o; omega) (by omega) ?_)))
        intro v5 w5 hown' hgrow hat
        have HO5 := K.mk (hown'.cast (show _ = compS ((vs.zip ds).take (k + 1)) by rw [← HZ.o]))
        have HB5 := K.mk (HB2.o.grown hgrow (by omega) (fun q hq => (HO2.o.lt q hq).1))
        clear hown' hgrow hat
        go_wp2_with fail
        go_roundg (n - (k + 1))
        case measure => omega
        case rel => exact ⟨k + 1, by omega, Nat.le_refl _, by go_num, HO5, HB5⟩
    · have hlt' : ¬ (k : Int) < (n : Int) := by omega
      have hkk : k = n := by omega
      subst hkk
      have HO2 := K.mk (HO.o.cast (show _ = compS (vs.zip ds) by rw [List.take_of_length_le (by rw [List.length_zip, HVL.o, HDL.o]; omega)]))
      clear HO
      obtain ⟨vA, vc, rfl⟩ := HO2.o.form
      generalize hm : (compS (vs.zip ds)).length = m at *
      have HM := K.mk hm
      clear hm
      by_cases h200 : 200 < m
      · have z : (200 : Int) < (m : Int) := by omega
        go_wp2_with fail
        go_ret2
        exact compQ_long (by rw [HM.o]; exact h200) HB.o
      · have z : ¬ (200 : Int) < (m : Int) := by omega
        go_wp2_with fail
        go_ret2
        exact compQ_ok HM.o h200 HO2.o HB.o
end Go.Proofs.YtgcbkecpplhknaaDoor
