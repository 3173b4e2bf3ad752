/- Walks: a text's bytes in a key, of the reference. Walks: a number's eight bytes, of the reference. Walks: a value's key, of the reference. Walks: an object's key, of the reference; and all of it. -/
import Derived.Test.YtgcbkecpplhknaaDoorEKeyS
import Derived.Test.YtgcbkecpplhknaaDoorEKeyPQ
import Derived.Test.YtgcbkecpplhknaaDoorOwnM


import Derived.WalkKit
import Derived.Deep.QuietTactic
import Derived.BigQuiet
import Derived.Outline
import Derived.Deep.DeepMust
import Derived.Deep.CutBlock
import Derived.Deep.DeepCutAuto
import Derived.Deep.RegionWith
import Derived.WalkSpells
import Derived.WalkLawsBesides
import Derived.Test.YtgcbkecpplhknaaDoorMu
import Derived.Test.YtgcbkecpplhknaaDoorProg
set_option linter.unusedVariables false
set_option linter.unusedSimpArgs false
namespace Go.Proofs.YtgcbkecpplhknaaDoor
open Go.RowKit Go.Mu
end Go.Proofs.YtgcbkecpplhknaaDoor
namespace Go.Proofs.YtgcbkecpplhknaaDoor
open Go.RowKit Go.Mu

theorem byte_info : ∃ i, Tryd.prog.info? 5 = some i ∧ i.zero = some (.int .u8 0) ∧ i.size = 1 ∧ i.bytes = 1 := by
  have h : (Tryd.prog.info? 5).map (fun i => (i.zero, i.size, i.bytes)) = some (some (.int .u8 0), 1, 1) := by kernel_rfl
  obtain ⟨i, hi, he⟩ := Option.map_eq_some_iff.1 h
  injection he with h1 h2
  injection h2 with h2 h3
  exact ⟨i, hi, h1, h2, h3⟩
theorem flat_Byte : Flat rByte := fun _ _ _ _ _ _ h => h
/-- Bytes in a slice of the call's own. -/
def BytesQ (l : List UInt8) (w : World) (e : Ending) (w' : World) : Prop := ∃ A c, e = .returned (.slice A l.length c) ∧ OwnL rByte 5 w.heap.size w' l (.slice A l.length c) ∧ Below w.heap.size w w'


set_option maxRecDepth 100000 in
set_option maxHeartbeats 4000000 in
theorem refText_calls (s : ByteArray) (hs : s.size ≤ 1000) (w : World) : Calls Tryd.prog 88 #[.string s] w (BytesQ (textK s) w) := by
  obtain ⟨i0, hi, hz0, hz1, hz2⟩ := byte_info
  go_enter Tryd.func88, Tryd.ntmps88
  go_wp2_with fail
  go_loopg [3, 4] s.size (fun g s3 s4 wr => ∃ (k : Nat) (v : Value), k ≤ s.size ∧ s.size - k ≤ g ∧ s4 = .int .i64 k ∧ s3 = v ∧ K (OwnL rByte 5 w.heap.size wr (escZ (s.data.toList.take k)) v) ∧ K (Below w.heap.size w wr))
  case atStart => exact ⟨0, _, Nat.zero_le _, Nat.le_refl _, rfl, rfl, ⟨by simpa [escZ] using OwnL.nil _ _ _ _⟩, ⟨Below.refl _ _⟩⟩
  case round =>
    obtain ⟨k, v, hk, hg, rfl, rfl, HO, HB⟩ := hrel
    have hws := HB.o.size
    have HLE := K.mk (show (escZ (s.data.toList.take k)).length ≤ 2000 by have := escZ_len (s.data.toList.take k); rw [List.length_take] at this; omega)
    rcases Nat.lt_or_ge k s.size with hlt | hge
    · have hlt' : (k : Int) < (s.size : Int) := by omega
      have HX := K.mk (show s.data.toList[k]? = some (s[k]'hlt) by rw [List.getElem?_eq_getElem (by simpa using hlt)]; rfl)
      by_cases h0 : (s[k]'hlt) = 0
      · have HZ := K.mk (escZ_zero HX.o h0)
        have q0 : (((s[k]'hlt).toNat : Int) == 0) = true := beq_tt (by rw [h0]; rfl)
        clear h0
        go_wp2_with (at_builtin; go_must (refine wpList_append_L (w := wr) rByte rfl _ _ 50 rfl w.heap.size 5 i0 (.int .u8 0) 1 Tryd.underlying50 hi hz0 hz1 hz2 rfl (by decide) _ (escZ (s.data.toList.take k)) (by rfl) HO.o (s[k]'hlt) [.int .u8 ((s[k]'hlt).toNat : Int)] (show rByte.R _ _ _ _ from rfl) (by rfl) (fun j u hu => (Blk.new wr 5 [.int .u8 ((s[k]'hlt).toNat : Int)]).cell j hu) (below_a1 _ _) (by have := HLE.o; unfold maxLen; omega) (by have := HLE.o; omega) (by omega) ?_))
        intro v2 w3 hown' hgrow hnn hat
        have HO2 := K.mk hown'
        have HB2 := K.mk ((HB.o.alloc HB.o.size _).grown hgrow (by simp; omega) (fun q hq => (HO.o.lt q hq).1))
        have hws2 := HB2.o.size
        have HLE2 := K.mk (show (escZ (s.data.toList.take k) ++ [s[k]'hlt]).length ≤ 2001 by have := HLE.o; simp; omega)
        clear hown' hgrow hnn hat
        go_wp2_with (at_builtin; go_must (refine wpList_append_L (w := w3) rByte rfl _ _ 50 rfl w.heap.size 5 i0 (.int .u8 0) 1 Tryd.underlying50 hi hz0 hz1 hz2 rfl (by decide) _ (escZ (s.data.toList.take k) ++ [s[k]'hlt]) (by rfl) HO2.o ((255 : UInt8)) [.int .u8 255] (show rByte.R _ _ _ _ from rfl) (by rfl) (fun j u hu => (Blk.new w3 5 [.int .u8 255]).cell j hu) (below_a1 _ _) (by have := HLE2.o; unfold maxLen; omega) (by have := HLE2.o; omega) (by omega) ?_))
        intro v3 w4 hown' hgrow hnn hat
        have HO3 := K.mk (hown'.cast (show _ = escZ (List.take (k + 1) s.data.toList) by rw [HZ.o]; simp))
        have HB3 := K.mk ((HB2.o.alloc HB2.o.size _).grown hgrow (by simp; omega) (fun q hq => (HO2.o.lt q hq).1))
        clear hown' hgrow hnn hat
        go_wp2_with fail
        go_roundg (s.size - (k + 1))
        case measure => omega
        case rel => exact ⟨k + 1, _, by omega, Nat.le_refl _, by go_num, rfl, HO3, HB3⟩
      · have HZ := K.mk (escZ_one HX.o h0)
        have q0 : (((s[k]'hlt).toNat : Int) == 0) = false := beq_ff (fun h => h0 (UInt8.toNat_inj.1 (by show _ = 0; omega)))
        clear h0
        go_wp2_with (at_builtin; go_must (refine wpList_append_L (w := wr) rByte rfl _ _ 50 rfl w.heap.size 5 i0 (.int .u8 0) 1 Tryd.underlying50 hi hz0 hz1 hz2 rfl (by decide) _ (escZ (s.data.toList.take k)) (by rfl) HO.o (s[k]'hlt) [.int .u8 ((s[k]'hlt).toNat : Int)] (show rByte.R _ _ _ _ from rfl) (by rfl) (fun j u hu => (Blk.new wr 5 [.int .u8 ((s[k]'hlt).toNat : Int)]).cell j hu) (below_a1 _ _) (by have := HLE.o; unfold maxLen; omega) (by have := HLE.o; omega) (by omega) ?_))
        intro v2 w3 hown' hgrow hnn hat
        have HO2 := K.mk (hown'.cast HZ.o.symm)
        have HB2 := K.mk ((HB.o.alloc HB.o.size _).grown hgrow (by simp; omega) (fun q hq => (HO.o.lt q hq).1))
        clear hown' hgrow hnn hat
        go_wp2_with fail
        go_roundg (s.size - (k + 1))
        case measure => omega
        case rel => exact ⟨k + 1, _, by omega, Nat.le_refl _, by go_num, rfl, HO2, HB2⟩
    · have hlt' : ¬ (k : Int) < (s.size : Int) := by omega
      have HE := K.mk (show escZ (s.data.toList.take k) = escZ s.data.toList by rw [List.take_of_length_le (by simpa using hge)])
      go_wp2_with (at_builtin; go_must (refine wpList_append_all rByte flat_Byte rfl _ _ 50 rfl w.heap.size 5 i0 (.int .u8 0) 1 Tryd.underlying50 hi hz0 hz1 hz2 rfl (by decide) _ (escZ (s.data.toList.take k)) (by rfl) (HO.o.alloc _) [0, 0] (fun _ => True) (some ⟨wr.heap.size, 0, none⟩) 2 (by rfl) (SliceR.ofBlk (r := rByte) (xs := [0, 0]) (t := 5) [[.int .u8 0], [.int .u8 0]] rfl (by rintro j x cs hx hc; match j, hx, hc with | 0, hx, hc => (simp at hx hc; subst hx hc; rfl) | 1, hx, hc => (simp at hx hc; subst hx hc; rfl) | n + 2, hx, hc => simp at hx) (Blk.new _ _ _) trivial (by decide)) (by have := HLE.o; simp [maxLen]; omega) (by have := HLE.o; simp; omega) (by simp; omega) ?_))
      intro v2 w3 hown' hgrow hat
      have HO2 := K.mk (hown'.cast (show _ = textK s by rw [HE.o]; rfl))
      have HB2 := K.mk ((HB.o.alloc HB.o.size _).grown hgrow (by simp; omega) (fun q hq => (HO.o.lt q hq).1))
      clear hown' hgrow hat
      go_wp2_with fail
      go_ret
      obtain ⟨A, c, rfl⟩ := HO2.o.form
      exact ⟨A, c, rfl, HO2.o, HB2.o⟩
end Go.Proofs.YtgcbkecpplhknaaDoor

namespace Go.Proofs.YtgcbkecpplhknaaDoor
open Go.RowKit Go.Mu

/-- Of eight bytes the last j, the others zero. -/
def bigL (m j : Nat) : List UInt8 := (List.range 8).map fun t => if 8 - j ≤ t then byteN m t else 0
def bigC (m j : Nat) : List Value := (bigL m j).map fun b => .int .u8 (b.toNat : Int)
theorem bigC_zero (m : Nat) : bigC m 0 = [.int .u8 0, .int .u8 0, .int .u8 0, .int .u8 0, .int .u8 0, .int .u8 0, .int .u8 0, .int .u8 0] := rfl
theorem bigL_all (m : Nat) : bigL m 8 = bigN m := rfl
theorem bigC_set (m j : Nat) (h : j < 8) : (bigC m j).set (7 - j) (.int .u8 ((byteN m (7 - j)).toNat : Int)) = bigC m (j + 1) := by
  match j, h with
  | 0, _ => rfl
  | 1, _ => rfl
  | 2, _ => rfl
  | 3, _ => rfl
  | 4, _ => rfl
  | 5, _ => rfl
  | 6, _ => rfl
  | 7, _ => rfl
  | j + 8, h => omega
theorem byteN_at (m j : Nat) (h : j < 8) : ((byteN m (7 - j)).toNat : Int) = ((m / 256 ^ j : Nat) : Int) % 256 := by
  unfold byteN
  rw [show 7 - (7 - j) = j by omega, UInt8.toNat_ofNat']
  simp
theorem pow_next (m j : Nat) : m / 256 ^ j / 256 = m / 256 ^ (j + 1) := by rw [Nat.div_div_eq_div_mul, Nat.pow_succ]

/-- A block that is known whole, as a slice of the call's own. -/
theorem OwnL.ofBlk {α : Type} {r : Rep α} {e : TypeId} {base : Nat} {w : World} {xs : List α} {g : Nat} (css : List (List Value)) (hl : css.length = xs.length)
    (hR : ∀ (j : Nat) (x : α) (cs : List Value), xs[j]? = some x → css[j]? = some cs → r.R w (fun b => some b ≠ some g) x cs) (hb : Blk w g e css.flatten) (hg : base ≤ g) (hn : xs.length ≤ maxLen) : OwnL r e base w xs (.slice (some ⟨g, 0, none⟩) xs.length xs.length) := by
  have hall : ∀ c ∈ css, c.length = r.sz := fun c hc => by
    obtain ⟨q, hq, rfl⟩ := List.mem_iff_getElem.1 hc
    exact r.len (hR q _ _ (List.getElem?_eq_getElem (by omega)) (List.getElem?_eq_getElem hq))
  have hfl : ∀ (es : List (List Value)), (∀ d ∈ es, d.length = r.sz) → es.flatten.length = es.length * r.sz := by
    intro es
    induction es with
    | nil => intro _; simp
    | cons d es ih => intro hh; rw [List.flatten_cons, List.length_append, ih (fun d hd => hh d (List.mem_cons_of_mem _ hd)), hh d (List.mem_cons_self ..), List.length_cons, Nat.add_mul]; omega
  have hlen := hfl css hall
  rw [hl] at hlen
  refine ⟨css, hl, hR, hlen, .inr ⟨g, xs.length, css.flatten.toArray, rfl, hg, hb, Nat.le_refl _, hn, by simpa using hlen, ?_⟩⟩
  simp only [← hlen]
  exact List.take_length
theorem flat_byte (l : List UInt8) : (l.map fun b => [Value.int .u8 (b.toNat : Int)]).flatten = l.map fun b => Value.int .u8 (b.toNat : Int) := by
  induction l with
  | nil => rfl
  | cons y l ih => rw [List.map_cons, List.flatten_cons, ih]; rfl

set_option maxRecDepth 100000 in
set_option maxHeartbeats 4000000 in
theorem refBig_calls (m : Nat) (hm : m ≤ 18446744073709551615) (w : World) : Calls Tryd.prog 87 #[.int .u64 m] w (BytesQ (bigN m) w) := by
  have hmk : ∀ W, (Instr.makeSlice 50 (.int .i64 8) (.int .i64 8)).run Tryd.prog W = .ok (.slice (some ⟨W.heap.size, 0, none⟩) 8 8) (W.alloc (.cells #[.int .u8 0, .int .u8 0, .int .u8 0, .int .u8 0, .int .u8 0, .int .u8 0, .int .u8 0, .int .u8 0] 5)) := fun _ => by kernel_rfl
  go_enter Tryd.func87, Tryd.ntmps87
  go_wp2_with fail
  go_loopg [0, 4] 8 (fun g s0 s4 wr => ∃ j : Nat, j ≤ 8 ∧ 8 - j ≤ g ∧ s0 = .int .u64 (m / 256 ^ j : Nat) ∧ s4 = .int .i64 ((7 : Int) - j) ∧ K (Blk wr w.heap.size 5 (bigC m j)) ∧ K (Below w.heap.size w wr))
  case atStart => exact ⟨0, Nat.zero_le _, Nat.le_refl _, by simp, rfl, ⟨Blk.new _ _ _⟩, ⟨below_a1 _ _⟩⟩
  case round =>
    obtain ⟨j, hj, hg, rfl, rfl, HC, HB⟩ := hrel
    have hlt := HC.o.lt
    rcases Nat.lt_or_ge j 8 with hlt | hge
    · have h1 : (0 : Int) ≤ 7 - (j : Int) := by omega
      have HP := K.mk (pow_next m j)
      have HY := K.mk (byteN_at m j hlt)
      have HS := K.mk (bigC_set m j hlt)
      have hq : m / 256 ^ j ≤ 18446744073709551615 := Nat.le_trans (Nat.div_le_self _ _) hm
      have hx : (7 - (j : Int)).toNat = 7 - j := by omega
      have hc : ∃ u, wr.cell? ⟨w.heap.size, 7 - j, none⟩ = some u := by
        have hl : (bigC m j).length = 8 := rfl
        exact ⟨_, HC.o.cell (7 - j) (List.getElem?_eq_getElem (by omega))⟩
      have hf := HC.o.frozen (7 - j)
      obtain ⟨u, hu⟩ := hc
      generalize m / 256 ^ j = q at *
      go_wp2_with fail
      go_roundg (8 - (j + 1))
      case measure => omega
      case rel =>
        refine ⟨j + 1, by omega, Nat.le_refl _, by rw [← HP.o]; go_num, by go_num, ⟨?_⟩, ⟨HB.o.setCell (p := ⟨w.heap.size, 7 - j, none⟩) (Nat.le_refl _) _⟩⟩
        rw [← HS.o, HY.o]
        exact HC.o.set _ _
    · have hj8 : j = 8 := by omega
      subst hj8
      go_wp2_with fail
      go_ret
      exact ⟨_, 8, rfl, OwnL.ofBlk (r := rByte) (xs := bigN m) ((bigN m).map fun b => [.int .u8 (b.toNat : Int)]) (by simp) (fun k x cs hx hc => by
        rw [List.getElem?_map, hx] at hc
        injection hc with hc
        exact hc.symm) (by rw [flat_byte]; exact HC.o) (Nat.le_refl _) (show 8 ≤ maxLen by decide), HB.o⟩
end Go.Proofs.YtgcbkecpplhknaaDoor

namespace Go.Proofs.YtgcbkecpplhknaaDoor
open Go.RowKit Go.Mu

theorem ownL_down {α : Type} {r : Rep α} {e : TypeId} {B B' : Nat} {w : World} {xs : List α} {v : Value} (h : OwnL r e B w xs v) (hB : B' ≤ B) : OwnL r e B' w xs v := by
  obtain ⟨css, h1, h2, h3⟩ := h
  refine ⟨css, h1, h2, h3.1, ?_⟩
  rcases h3.2 with h | ⟨g, cap, cur, hv, hb, h⟩
  · exact .inl h
  · exact .inr ⟨g, cap, cur, hv, Nat.le_trans hB hb, h⟩
theorem ownL_byte {B g : Nat} {w : World} (y : UInt8) (h : Blk w g 5 [.int .u8 (y.toNat : Int)]) (hB : B ≤ g) : OwnL rByte 5 B w [y] (.slice (some ⟨g, 0, none⟩) 1 1) :=
  OwnL.ofBlk (r := rByte) (xs := [y]) [[.int .u8 (y.toNat : Int)]] rfl (fun k x cs hx hc => by
    match k, hx, hc with
    | 0, hx, hc => simp at hx hc; subst hx hc; rfl
    | k + 1, hx, hc => simp at hx) h hB (show 1 ≤ maxLen by decide)
theorem bytesQ_own {l l' : List UInt8} {w w' : World} {v : Value} (h : OwnL rByte 5 w.heap.size w' l' v) (hl : l' = l) (hb : Below w.heap.size w w') : BytesQ l w (.returned v) w' := by
  subst hl
  obtain ⟨A, c, rfl⟩ := h.form
  exact ⟨A, c, rfl, h, hb⟩
theorem u64_off (n : Int) (h : IntKind.i64.min ≤ n ∧ n ≤ IntKind.i64.max) : IntKind.u64.wrap (IntKind.u64.wrap n + 9223372036854775808) = ((n + 9223372036854775808).toNat : Int) ∧ (n + 9223372036854775808).toNat ≤ 18446744073709551615 := by
  have h1 : -9223372036854775808 ≤ n := h.1
  have h2 : n ≤ 9223372036854775807 := h.2
  constructor
  · simp only [IntKind.wrap_u64]
    omega
  · omega
theorem refBig_num (n : Int) (h : IntKind.i64.min ≤ n ∧ n ≤ IntKind.i64.max) (w : World) : Calls Tryd.prog 87 #[.int .u64 (IntKind.u64.wrap (IntKind.u64.wrap n + 9223372036854775808))] w (BytesQ (bigS n) w) := by
  rw [(u64_off n h).1]
  exact refBig_calls _ (u64_off n h).2 w
theorem keyS_leaf (m : Nat) (v : JV) (h : v.kind = 0 ∨ v.kind = 1 ∨ v.kind = 2) : keyS (m + 1) v = [UInt8.ofNat (v.kind + 1).toNat] := by
  unfold keyS
  rw [if_neg (by omega), if_neg (by omega), if_neg (by omega)]
theorem keyS_int (m : Nat) (v : JV) (h : v.kind = 3) : keyS (m + 1) v = [4] ++ bigS v.num := by unfold keyS; rw [if_pos h, h]; rfl
theorem keyS_str (m : Nat) (v : JV) (h : v.kind = 4) : keyS (m + 1) v = [5] ++ textK v.text := by unfold keyS; rw [if_neg (by omega), if_pos h, h]; rfl
theorem keyS_arr (m : Nat) (v : JV) (h : v.kind = 5) : keyS (m + 1) v = ([6] ++ kBody v (keyS m) v.items.length) ++ [0] := by unfold keyS; rw [if_neg (by omega), if_neg (by omega), if_pos (.inl h), h]; rfl
theorem keyS_obj (m : Nat) (v : JV) (h : v.kind = 6) : keyS (m + 1) v = ([7] ++ kBody v (keyS m) v.items.length) ++ [0] := by unfold keyS; rw [if_neg (by omega), if_neg (by omega), if_pos (.inr h), h]; rfl

set_option maxRecDepth 100000 in
set_option maxHeartbeats 4000000 in
theorem refPlain_leaf (m : Nat) (v : JV) (cs : List Value) (S : Blocks) (w : World) (h : RV w S v cs) (hk : v.kind = 0 ∨ v.kind = 1 ∨ v.kind = 2) : Calls Tryd.prog 56 #[.agg cs.toArray] w (BytesQ (keyS (m + 1) v) w) := by
  obtain ⟨An, cn, Ai, ci, rfl, hnm, hit, _, hn, ht⟩ := h.wide
  have HS := K.mk (keyS_leaf m v hk)
  clear h hnm hit hn
  rcases hk with hk | hk | hk
  · rw [hk] at HS
    rw [hk]
    clear hk
    go_enter Tryd.func56, Tryd.ntmps56
    go_wp2_with fail
    go_ret
    exact bytesQ_own (ownL_byte 1 (Blk.new2 _ _ _ _) (by omega)) HS.o.symm (below_a2 _ _ _)
  · rw [hk] at HS
    rw [hk]
    clear hk
    go_enter Tryd.func56, Tryd.ntmps56
    go_wp2_with fail
    go_ret
    exact bytesQ_own (ownL_byte 2 (Blk.new2 _ _ _ _) (by omega)) HS.o.symm (below_a2 _ _ _)
  · rw [hk] at HS
    rw [hk]
    clear hk
    go_enter Tryd.func56, Tryd.ntmps56
    go_wp2_with fail
    go_ret
    exact bytesQ_own (ownL_byte 3 (Blk.new2 _ _ _ _) (by omega)) HS.o.symm (below_a2 _ _ _)

set_option maxRecDepth 100000 in
set_option maxHeartbeats 4000000 in
theorem refPlain_int (m : Nat) (v : JV) (cs : List Value) (S : Blocks) (w : World) (h : RV w S v cs) (hk : v.kind = 3) : Calls Tryd.prog 56 #[.agg cs.toArray] w (BytesQ (keyS (m + 1) v) w) := by
  obtain ⟨i0, hi, hz0, hz1, hz2⟩ := byte_info
  obtain ⟨An, cn, Ai, ci, rfl, hnm, hit, _, hn, ht⟩ := h.wide
  have HS := K.mk (keyS_int m v hk)
  have HC := K.mk (refBig_num v.num hn)
  have HL := K.mk (show ([4] : List UInt8).length + (bigS v.num).length ≤ 9 by rw [bigS_len]; decide)
  clear h hnm hit hn
  rw [hk]
  clear hk
  go_enter Tryd.func56, Tryd.ntmps56
  go_wp2_with (first
    | (go_at_call 87; go_must (refine (HC.o _).mono ?_); rintro e w1 ⟨A, c, rfl, HY, hb1⟩; have HY1 := K.mk HY; have HX := K.mk (ownL_byte (B := w.heap.size) 4 ((Blk.new2 _ _ _ _).below hb1 (by simp)) (by omega)); have HB := K.mk (below2 (below_a2 _ _ _) hb1); have hws := HB.o.size; clear hb1 HY)
    | (at_builtin; go_must (refine wpList_append_all rByte flat_Byte rfl _ _ 50 rfl w.heap.size 5 i0 (.int .u8 0) 1 Tryd.underlying50 hi hz0 hz1 hz2 rfl (by decide) _ _ (by rfl) HX.o (bigS v.num) (fun _ => True) _ _ (by rfl) (HY1.o.slice (by rw [bigS_len]; decide)) (by have := HL.o; unfold maxLen; omega) (by have := HL.o; omega) (by omega) ?_)))
  intro v2 w3 hown' hgrow hat
  have HO2 := K.mk hown'
  have HB2 := K.mk (HB.o.grown hgrow (by omega) (fun q hq => (HX.o.lt q hq).1))
  clear hown' hgrow hat
  go_wp2_with fail
  go_ret
  exact bytesQ_own HO2.o HS.o.symm HB2.o

theorem text60 {m : Nat} {v : JV} (h : formS (m + 1) v = true) : v.text.size ≤ 60 := by
  obtain ⟨_, htx, _, _⟩ := form_parts h
  simp only [textS, Bool.and_eq_true, decide_eq_true_eq] at htx
  exact htx.1
theorem name60 {m : Nat} {v : JV} (h : formS (m + 1) v = true) (h5 : ¬ v.kind < 5) (k : Nat) : (v.names.getD k ByteArray.empty).size ≤ 60 := by
  obtain ⟨_, _, _, h2⟩ := form_parts h
  obtain ⟨h24, hn, hns⟩ := h2 h5
  by_cases hk : k < v.names.length
  · exact namesS_text hns k hk
  · rw [List.getD_eq_getElem?_getD, List.getElem?_eq_none (by omega)]; decide
theorem kCap_le {m : Nat} (h : m ≤ 6) : kCap m ≤ 30000000000 := by
  match m, h with
  | 0, _ => decide
  | 1, _ => decide
  | 2, _ => decide
  | 3, _ => decide
  | 4, _ => decide
  | 5, _ => decide
  | 6, _ => decide
theorem body_small {m : Nat} {v : JV} (hm : m + 1 ≤ 6) (h : formS (m + 1) v = true) (h5 : ¬ v.kind < 5) (k : Nat) (hk : k ≤ v.items.length) : (kBody v (keyS m) k).length ≤ 30000000000 := by
  have h1 := (key_len (m + 1) v h).2 k hk h5
  obtain ⟨_, _, _, h2⟩ := form_parts h
  have h3 := (h2 h5).1
  have h4 := kCap_le hm
  have h6 : kCap (m + 1) = 24 * (kCap m + 123) + 130 := rfl
  have h7 : k * (kCap m + 123) ≤ 24 * (kCap m + 123) := Nat.mul_le_mul_right _ (by omega)
  simp only [Nat.add_sub_cancel] at h1
  omega
theorem key_small {m : Nat} {v : JV} (hm : m ≤ 6) (h : formS m v = true) : (keyS m v).length ≤ 30000000000 := Nat.le_trans (key_len m v h).1 (kCap_le hm)

set_option maxRecDepth 100000 in
set_option maxHeartbeats 4000000 in
theorem refPlain_str (m : Nat) (v : JV) (cs : List Value) (S : Blocks) (w : World) (h : RV w S v cs) (hk : v.kind = 4) (hf : formS (m + 1) v = true) : Calls Tryd.prog 56 #[.agg cs.toArray] w (BytesQ (keyS (m + 1) v) w) := by
  obtain ⟨i0, hi, hz0, hz1, hz2⟩ := byte_info
  obtain ⟨An, cn, Ai, ci, rfl, hnm, hit, _, hn, ht⟩ := h.wide
  have ht60 := text60 hf
  have HS := K.mk (keyS_str m v hk)
  have HC := K.mk (refText_calls v.text (by omega))
  have HL := K.mk (show ([5] : List UInt8).length + (textK v.text).length ≤ 200 by have := textK_len v.text; simp; omega)
  clear h hnm hit hn hf
  rw [hk]
  clear hk
  go_enter Tryd.func56, Tryd.ntmps56
  go_wp2_with (first
    | (go_at_call 88; go_must (refine (HC.o _).mono ?_); rintro e w1 ⟨A, c, rfl, HY, hb1⟩; have HY1 := K.mk HY; have HX := K.mk (ownL_byte (B := w.heap.size) 5 ((Blk.new2 _ _ _ _).below hb1 (by simp)) (by omega)); have HB := K.mk (below2 (below_a2 _ _ _) hb1); have hws := HB.o.size; clear hb1 HY)
    | (at_builtin; go_must (refine wpList_append_all rByte flat_Byte rfl _ _ 50 rfl w.heap.size 5 i0 (.int .u8 0) 1 Tryd.underlying50 hi hz0 hz1 hz2 rfl (by decide) _ _ (by rfl) HX.o (textK v.text) (fun _ => True) _ _ (by rfl) (HY1.o.slice (by have := HL.o; unfold strMax; simp at this; omega)) (by have := HL.o; unfold maxLen; omega) (by have := HL.o; omega) (by omega) ?_)))
  intro v2 w3 hown' hgrow hat
  have HO2 := K.mk hown'
  have HB2 := K.mk (HB.o.grown hgrow (by omega) (fun q hq => (HX.o.lt q hq).1))
  clear hown' hgrow hat
  go_wp2_with fail
  go_ret
  exact bytesQ_own HO2.o HS.o.symm HB2.o

theorem kBody_arr {v : JV} {f : JV → List UInt8} {k : Nat} {x : JV} (hk : v.kind = 5) (h : v.items[k]? = some x) (p : List UInt8) : (p ++ kBody v f k) ++ f x = p ++ kBody v f (k + 1) := by
  rw [kBody_succ v f k x h]; simp [kHead, hk]

set_option maxRecDepth 100000 in
set_option maxHeartbeats 4000000 in
theorem refPlain_arr (m : Nat) (hm : m + 1 ≤ 6) (v : JV) (cs : List Value) (S : Blocks) (w : World) (h : RV w S v cs) (hk : v.kind = 5) (hf : formS (m + 1) v = true)
    (ih : ∀ (v : JV) (cs : List Value) (S : Blocks) (w : World), RV w S v cs → formS m v = true → Calls Tryd.prog 56 #[.agg cs.toArray] w (BytesQ (keyS m v) w)) : Calls Tryd.prog 56 #[.agg cs.toArray] w (BytesQ (keyS (m + 1) v) w) := by
  obtain ⟨i0, hi, hz0, hz1, hz2⟩ := byte_info
  obtain ⟨An, cn, Ai, ci, rfl, hnm, hit, _, hn, ht⟩ := h.wide
  have HS := K.mk (keyS_arr m v hk)
  have HKA := K.mk (fun k x (hx : v.items[k]? = some x) => kBody_arr (f := keyS m) hk hx [6])
  have HBS := K.mk (fun k hk' => body_small hm hf (by omega) k hk')
  have HIF := K.mk (form_parts hf).2.2.1
  have HIH := K.mk ih
  have HIT := K.mk hit
  have h24 := ((form_parts hf).2.2.2 (by omega)).1
  clear h hnm hit hn hf ih
  generalize hvl : v.items.length = n at *
  have HVL := K.mk hvl
  clear hvl
  rw [hk]
  clear hk
  go_enter Tryd.func56, Tryd.ntmps56
  go_wp2_with fail
  go_loopg [3, 4] n (fun g s3 s4 wr => ∃ k : Nat, k ≤ n ∧ n - k ≤ g ∧ s4 = .int .i64 k ∧ K (OwnL rByte 5 (w.heap.size + 1) wr ([6] ++ kBody v (keyS m) k) s3) ∧ K (Below w.heap.size w wr) ∧ K (Blk wr w.heap.size 37 [.int .i64 5, .int .i64 v.num, .string v.text, .slice An v.names.length cn, .slice Ai n ci]))
  case atStart => exact ⟨0, Nat.zero_le _, Nat.le_refl _, rfl, ⟨ownL_byte 6 (Blk.new2 _ _ _ _) (Nat.le_refl _)⟩, ⟨below_a2 _ _ _⟩, ⟨Blk.new1 _ _ _ _⟩⟩
  case round =>
    obtain ⟨k, hk1, hg, rfl, HO, HB, HV⟩ := hrel
    have v4 := HV.o.cell 4 rfl
    have hsz := HV.o.lt
    rcases Nat.lt_or_ge k n with hlt | hge
    · have hlt' : (k : Int) < (n : Int) := by omega
      obtain ⟨b, o, x, xcs, rfl, hS, hbb, hx, hRx, hcx⟩ := HIT.o.at k (by rw [HVL.o]; exact hlt)
      have HC := K.mk (HIH.o x xcs S wr (rV.below hRx HB.o) (HIF.o x (List.mem_of_getElem? hx)))
      have HL := K.mk (show ([6] ++ kBody v (keyS m) k).length + (keyS m x).length ≤ 60000000001 by
        have h1 := HBS.o k (by omega)
        have h2 := key_small (by omega) (HIF.o x (List.mem_of_getElem? hx))
        simp only [List.length_append, List.length_cons, List.length_nil]; omega)
      have HX := K.mk (HKA.o k x hx)
      obtain ⟨xAn, xcn, xA, xc, rfl, _⟩ := hRx.wide
      obtain ⟨c0, c1, c2, c3, c4⟩ := (hcx.below HB.o).five
      clear hx hcx hRx
      go_wp2_with (first
        | (go_at_call 56; go_must (refine HC.o.mono ?_); rintro e w1 ⟨A, c, rfl, HY, hb1⟩; have HY1 := K.mk HY; have HO1 := K.mk (HO.o.more hb1); have HB1 := K.mk (below2 HB.o hb1); have HV1 := K.mk (HV.o.below hb1 hsz); have hws := HB1.o.size; have hws1 := HV1.o.lt; clear hb1 HY)
        | (at_builtin; go_must (refine wpList_append_all rByte flat_Byte rfl _ _ 50 rfl (w.heap.size + 1) 5 i0 (.int .u8 0) 1 Tryd.underlying50 hi hz0 hz1 hz2 rfl (by decide) _ _ (by rfl) HO1.o (keyS m x) (fun _ => True) _ _ (by rfl) (HY1.o.slice (by have := HL.o; unfold strMax; omega)) (by have := HL.o; unfold maxLen; omega) (by have := HL.o; omega) (by omega) ?_)))
      intro v2 w3 hown' hgrow hat
      have HO2 := K.mk (hown'.cast (show _ = [6] ++ kBody v (keyS m) (k + 1) by rw [← HX.o]; simp))
      have HB2 := K.mk (HB1.o.grown hgrow (by omega) (fun q hq => by have := (HO1.o.lt q hq).1; omega))
      have HV2 := K.mk (HV1.o.grown hgrow (fun h => by have := (HO1.o.lt _ h.symm).1; omega))
      clear hown' hgrow hat
      go_wp2_with fail
      go_roundg (n - (k + 1))
      case measure => omega
      case rel => exact ⟨k + 1, by omega, Nat.le_refl _, by go_num, HO2, HB2, HV2⟩
    · have hkk : k = n := by omega
      subst hkk
      have hlt' : ¬ (k : Int) < (k : Int) := by omega
      have HL := K.mk (show ([6] ++ kBody v (keyS m) k).length ≤ 60000000001 by
        have h1 := HBS.o k (by omega)
        simp only [List.length_append, List.length_cons, List.length_nil]; omega)
      have hws := HB.o.size
      go_wp2_with (at_builtin; go_must (refine wpList_append_L (w := wr) rByte rfl _ _ 50 rfl (w.heap.size + 1) 5 i0 (.int .u8 0) 1 Tryd.underlying50 hi hz0 hz1 hz2 rfl (by decide) _ ([6] ++ kBody v (keyS m) k) (by rfl) HO.o ((0 : UInt8)) [.int .u8 0] (show rByte.R _ _ _ _ from rfl) (by rfl) (fun j u hu => (Blk.new wr 5 [.int .u8 0]).cell j hu) (below_a1 _ _) (by have := HL.o; unfold maxLen; omega) (by have := HL.o; omega) (by omega) ?_))
      intro v2 w3 hown' hgrow hnn hat
      have HO2 := K.mk (ownL_down (hown'.cast (show _ = keyS (m + 1) v by rw [HS.o]; simp)) (Nat.le_succ _))
      have HB2 := K.mk ((HB.o.alloc HB.o.size _).grown hgrow (by simp; omega) (fun q hq => by have := (HO.o.lt q hq).1; omega))
      clear hown' hgrow hat
      go_wp2_with fail
      go_ret
      exact bytesQ_own HO2.o rfl HB2.o
end Go.Proofs.YtgcbkecpplhknaaDoor

namespace Go.Proofs.YtgcbkecpplhknaaDoor
open Go.RowKit Go.Mu

theorem kBody_obj {v : JV} {f : JV → List UInt8} {k : Nat} {x : JV} {s : ByteArray} (hk : v.kind = 6) (hs : v.names[k]? = some s) (h : v.items[k]? = some x) (p : List UInt8) : (((p ++ kBody v f k) ++ [1]) ++ textK s) ++ f x = p ++ kBody v f (k + 1) := by
  rw [kBody_succ v f k x h]; simp [kHead, hk, hs]

set_option maxRecDepth 100000 in
set_option maxHeartbeats 8000000 in
theorem refPlain_obj (m : Nat) (hm : m + 1 ≤ 6) (v : JV) (cs : List Value) (S : Blocks) (w : World) (h : RV w S v cs) (hk : v.kind = 6) (hf : formS (m + 1) v = true)
    (ih : ∀ (v : JV) (cs : List Value) (S : Blocks) (w : World), RV w S v cs → formS m v = true → Calls Tryd.prog 56 #[.agg cs.toArray] w (BytesQ (keyS m v) w)) : Calls Tryd.prog 56 #[.agg cs.toArray] w (BytesQ (keyS (m + 1) v) w) := by
  obtain ⟨i0, hi, hz0, hz1, hz2⟩ := byte_info
  obtain ⟨An, cn, Ai, ci, rfl, hnm, hit, _, hn, ht⟩ := h.wide
  have HS := K.mk (keyS_obj m v hk)
  have HKA := K.mk (fun k s x (hs : v.names[k]? = some s) (hx : v.items[k]? = some x) => kBody_obj (f := keyS m) hk hs hx [7])
  have HBS := K.mk (fun k hk' => body_small hm hf (by omega) k hk')
  have HIF := K.mk (form_parts hf).2.2.1
  have HIH := K.mk ih
  have HIT := K.mk hit
  have HNM := K.mk hnm
  have hnl : v.names.length = v.items.length := form_names hf hk
  have HNS := K.mk (fun k => name60 hf (by omega) k)
  have h24 := ((form_parts hf).2.2.2 (by omega)).1
  clear h hnm hit hn hf ih
  rw [hnl] at HNM ⊢
  generalize hvl : v.items.length = n at *
  have HVL := K.mk hvl
  have HNL := K.mk hnl
  clear hvl hnl
  rw [hk]
  clear hk
  go_enter Tryd.func56, Tryd.ntmps56
  go_wp2_with fail
  go_loopg [3, 5] n (fun g s3 s5 wr => ∃ k : Nat, k ≤ n ∧ n - k ≤ g ∧ s5 = .int .i64 k ∧ K (OwnL rByte 5 (w.heap.size + 1) wr ([7] ++ kBody v (keyS m) k) s3) ∧ K (Below w.heap.size w wr) ∧ K (Blk wr w.heap.size 37 [.int .i64 6, .int .i64 v.num, .string v.text, .slice An n cn, .slice Ai n ci]))
  case atStart => exact ⟨0, Nat.zero_le _, Nat.le_refl _, rfl, ⟨ownL_byte 7 (Blk.new2 _ _ _ _) (Nat.le_refl _)⟩, ⟨below_a2 _ _ _⟩, ⟨Blk.new1 _ _ _ _⟩⟩
  case round =>
    obtain ⟨k, hk1, hg, rfl, HO, HB, HV⟩ := hrel
    have v4 := HV.o.cell 4 rfl
    have hsz := HV.o.lt
    have hws := HB.o.size
    rcases Nat.lt_or_ge k n with hlt | hge
    · have hlt' : (k : Int) < (n : Int) := by omega
      obtain ⟨b, o, x, xcs, rfl, hS, hbb, hx, hRx, hcx⟩ := HIT.o.at k (by rw [HVL.o]; exact hlt)
      obtain ⟨b', o', s, scs, rfl, hS', hbb', hs, ⟨rfl, hss⟩, hcs⟩ := HNM.o.at1 k (by rw [HNL.o]; exact hlt)
      have hs60 : s.size ≤ 60 := by have := HNS.o k; rwa [List.getD_eq_getElem?_getD, hs] at this
      have HT := K.mk (refText_calls s (by omega))
      have HC := K.mk (fun W (hW : Below w.heap.size w W) => HIH.o x xcs S W (rV.below hRx hW) (HIF.o x (List.mem_of_getElem? hx)))
      have HL := K.mk (show (((([7] ++ kBody v (keyS m) k) ++ [1]) ++ textK s)).length + (keyS m x).length ≤ 60000001001 by
        have h1 := HBS.o k (by omega)
        have h2 := key_small (by omega) (HIF.o x (List.mem_of_getElem? hx))
        have h3 := textK_len s
        simp only [List.length_append, List.length_cons, List.length_nil]; omega)
      have HL1 := K.mk (show ([7] ++ kBody v (keyS m) k).length ≤ 60000001001 by have := HL.o; simp only [List.length_append] at this ⊢; omega)
      have HL2 := K.mk (show (([7] ++ kBody v (keyS m) k) ++ [1]).length + (textK s).length ≤ 60000001001 by have := HL.o; simp only [List.length_append] at this ⊢; omega)
      have HX := K.mk (HKA.o k s x hs hx)
      obtain ⟨xAn, xcn, xA, xc, rfl, _⟩ := hRx.wide
      have HCX := K.mk hcx
      have HCS := K.mk hcs
      clear hx hs hcx hcs hRx
      go_wp2_with (at_builtin; go_must (refine wpList_append_L (w := wr) rByte rfl _ _ 50 rfl (w.heap.size + 1) 5 i0 (.int .u8 0) 1 Tryd.underlying50 hi hz0 hz1 hz2 rfl (by decide) _ ([7] ++ kBody v (keyS m) k) (by rfl) HO.o ((1 : UInt8)) [.int .u8 1] (show rByte.R _ _ _ _ from rfl) (by rfl) (fun j u hu => (Blk.new wr 5 [.int .u8 1]).cell j hu) (below_a1 _ _) (by have := HL1.o; unfold maxLen; omega) (by have := HL1.o; omega) (by omega) ?_))
      intro v2 w3 hown' hgrow hnn hat
      have HO2 := K.mk (hown'.cast (show _ = ([7] ++ kBody v (keyS m) k) ++ [1] by simp))
      have HB2 := K.mk ((HB.o.alloc HB.o.size _).grown hgrow (by simp; omega) (fun q hq => by have := (HO.o.lt q hq).1; omega))
      have HV2 := K.mk ((HV.o.alloc _).grown hgrow (fun h => by have := (HO.o.lt _ h.symm).1; omega))
      have v3 := HV2.o.cell 3 rfl
      have hsz2 := HV2.o.lt
      have n0 := (HCS.o.below HB2.o).one
      clear hown' hgrow hat hnn v4
      go_wp2_with (first
        | (go_at_call 88; go_must (refine (HT.o _).mono ?_); rintro e w1 ⟨A, c, rfl, HY, hb1⟩; have HY1 := K.mk HY; have HO3 := K.mk (HO2.o.more hb1); have HB3 := K.mk (below2 HB2.o hb1); have HV3 := K.mk (HV2.o.below hb1 hsz2); have hws3 := HB3.o.size; have hsz3 := HV3.o.lt; clear hb1 HY)
        | (at_builtin; go_must (refine wpList_append_all rByte flat_Byte rfl _ _ 50 rfl (w.heap.size + 1) 5 i0 (.int .u8 0) 1 Tryd.underlying50 hi hz0 hz1 hz2 rfl (by decide) _ _ (by rfl) HO3.o (textK s) (fun _ => True) _ _ (by rfl) (HY1.o.slice (by have := HL2.o; unfold strMax; omega)) (by have := HL2.o; unfold maxLen; omega) (by have := HL2.o; omega) (by omega) ?_)))
      intro v5 w5 hown' hgrow hat
      have HO4 := K.mk (hown'.cast (show _ = (([7] ++ kBody v (keyS m) k) ++ [1]) ++ textK s by simp))
      have HB4 := K.mk (HB3.o.grown hgrow (by omega) (fun q hq => by have := (HO3.o.lt q hq).1; omega))
      have HV4 := K.mk (HV3.o.grown hgrow (fun h => by have := (HO3.o.lt _ h.symm).1; omega))
      have v4 := HV4.o.cell 4 rfl
      have hsz4 := HV4.o.lt
      obtain ⟨c0, c1, c2, c3, c4⟩ := (HCX.o.below HB4.o).five
      clear hown' hgrow hat n0
      go_wp2_with (first
        | (go_at_call 56; go_must (refine (HC.o _ HB4.o).mono ?_); rintro e w7 ⟨A7, d7, rfl, HY, hb1⟩; have HY7 := K.mk HY; have HO7 := K.mk (HO4.o.more hb1); have HB7 := K.mk (below2 HB4.o hb1); have HV7 := K.mk (HV4.o.below hb1 hsz4); have hws7 := HB7.o.size; have hsz7 := HV7.o.lt; clear hb1 HY)
        | (at_builtin; go_must (refine wpList_append_all rByte flat_Byte rfl _ _ 50 rfl (w.heap.size + 1) 5 i0 (.int .u8 0) 1 Tryd.underlying50 hi hz0 hz1 hz2 rfl (by decide) _ _ (by rfl) HO7.o (keyS m x) (fun _ => True) _ _ (by rfl) (HY7.o.slice (by have := HL.o; unfold strMax; omega)) (by have := HL.o; unfold maxLen; omega) (by have := HL.o; omega) (by omega) ?_)))
      intro v8 w8 hown' hgrow hat
      have HO8 := K.mk (hown'.cast (show _ = [7] ++ kBody v (keyS m) (k + 1) by rw [← HX.o]; simp))
      have HB8 := K.mk (HB7.o.grown hgrow (by omega) (fun q hq => by have := (HO7.o.lt q hq).1; omega))
      have HV8 := K.mk (HV7.o.grown hgrow (fun h => by have := (HO7.o.lt _ h.symm).1; omega))
      clear hown' hgrow hat
      go_wp2_with fail
      go_roundg (n - (k + 1))
      case measure => omega
      case rel => exact ⟨k + 1, by omega, Nat.le_refl _, by go_num, HO8, HB8, HV8⟩
    · have hkk : k = n := by omega
      subst hkk
      have hlt' : ¬ (k : Int) < (k : Int) := by omega
      have HL := K.mk (show ([7] ++ kBody v (keyS m) k).length ≤ 60000000001 by
        have h1 := HBS.o k (by omega)
        simp only [List.length_append, List.length_cons, List.length_nil]; omega)
      go_wp2_with (at_builtin; go_must (refine wpList_append_L (w := wr) rByte rfl _ _ 50 rfl (w.heap.size + 1) 5 i0 (.int .u8 0) 1 Tryd.underlying50 hi hz0 hz1 hz2 rfl (by decide) _ ([7] ++ kBody v (keyS m) k) (by rfl) HO.o ((0 : UInt8)) [.int .u8 0] (show rByte.R _ _ _ _ from rfl) (by rfl) (fun j u hu => (Blk.new wr 5 [.int .u8 0]).cell j hu) (below_a1 _ _) (by have := HL.o; unfold maxLen; omega) (by have := HL.o; omega) (by omega) ?_))
      intro v2 w3 hown' hgrow hnn hat
      have HO2 := K.mk (ownL_down (hown'.cast (show _ = keyS (m + 1) v by rw [HS.o]; simp)) (Nat.le_succ _))
      have HB2 := K.mk ((HB.o.alloc HB.o.size _).grown hgrow (by simp; omega) (fun q hq => by have := (HO.o.lt q hq).1; omega))
      clear hown' hgrow hat
      go_wp2_with fail
      go_ret
      exact bytesQ_own HO2.o rfl HB2.o

theorem form_kind {m : Nat} {v : JV} (h : formS (m + 1) v = true) : 0 ≤ v.kind ∧ v.kind ≤ 6 := by
  obtain ⟨hb, _⟩ := form_parts h
  simp only [baseS, Bool.and_eq_true, decide_eq_true_eq] at hb
  exact ⟨hb.1.1.1, hb.1.1.2⟩
theorem refPlain_calls : ∀ (m : Nat), m ≤ 6 → ∀ (v : JV) (cs : List Value) (S : Blocks) (w : World), RV w S v cs → formS m v = true → Calls Tryd.prog 56 #[.agg cs.toArray] w (BytesQ (keyS m v) w)
  | 0, _, v, cs, S, w, h, hf => by simp [formS] at hf
  | m + 1, hm, v, cs, S, w, h, hf => by
    have hk := form_kind hf
    have ih := refPlain_calls m (by omega)
    by_cases h0 : v.kind = 0 ∨ v.kind = 1 ∨ v.kind = 2
    · exact refPlain_leaf m v cs S w h h0
    by_cases h3 : v.kind = 3
    · exact refPlain_int m v cs S w h h3
    by_cases h4 : v.kind = 4
    · exact refPlain_str m v cs S w h h4 hf
    by_cases h5 : v.kind = 5
    · exact refPlain_arr m hm v cs S w h h5 hf ih
    · exact refPlain_obj m hm v cs S w h (by omega) hf ih
end Go.Proofs.YtgcbkecpplhknaaDoor
