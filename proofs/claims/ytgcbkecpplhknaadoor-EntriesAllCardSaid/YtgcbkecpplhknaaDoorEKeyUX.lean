/- Own words: the highest bit turned; all bits of a byte turned. No program in sight. Walks: append64 and text of the keys. Walks: put of the keys: small values. Walks: put of the keys: arrays and objects. Walks: put of the keys: objects. -/
import Derived.Laws.BitsAllLaws
import Derived.Test.YtgcbkecpplhknaaDoorMu
import Derived.Test.YtgcbkecpplhknaaDoorEKeyTR
import Derived.Deep.RegionHeld3
import Derived.Deep.DrawnRows
import Derived.Deep.RegionLaw


import Derived.WalkKit
import Derived.Deep.QuietTactic
import Derived.BigQuiet
import Derived.Outline
import Derived.Deep.DeepMust
import Derived.Deep.CutBlock
import Derived.Deep.DeepCutAuto
import Derived.Deep.RegionWith
import Derived.WalkSpells
import Derived.WalkLawsBesides
import Derived.Test.YtgcbkecpplhknaaDoorMu
import Derived.Test.YtgcbkecpplhknaaDoorProg
set_option linter.unusedVariables false
set_option linter.unusedSimpArgs false
namespace Go.Proofs.YtgcbkecpplhknaaDoor
open Go.RowKit Go.Mu
end Go.Proofs.YtgcbkecpplhknaaDoor
namespace Go.Mu

theorem xor_top (k c : Nat) (h : c < 2 ^ k) : c ^^^ 2 ^ k = 2 ^ k + c := by
  apply Nat.eq_of_testBit_eq
  intro i
  rw [Nat.testBit_xor, Nat.testBit_two_pow]
  rcases Nat.lt_trichotomy i k with hi | hi | hi
  · rw [Nat.testBit_two_pow_add_gt hi]
    have : decide (k = i) = false := by simp; omega
    rw [this]; simp
  · subst hi
    rw [Nat.testBit_two_pow_add_eq, Nat.testBit_lt_two_pow h]; simp
  · have h1 : c.testBit i = false := Nat.testBit_lt_two_pow (Nat.lt_of_lt_of_le h (Nat.pow_le_pow_right (by omega) (by omega)))
    have h2 : (2 ^ k + c).testBit i = false := Nat.testBit_lt_two_pow (by
      have : 2 ^ (k + 1) ≤ 2 ^ i := Nat.pow_le_pow_right (by omega) (by omega)
      rw [Nat.pow_succ] at this; omega)
    rw [h1, h2]
    have : decide (k = i) = false := by simp; omega
    rw [this]; rfl
theorem xor_top2 (k c : Nat) (h : c < 2 ^ k) : (2 ^ k + c) ^^^ 2 ^ k = c := by
  rw [← xor_top k c h, Nat.xor_assoc, Nat.xor_self, Nat.xor_zero]
theorem xor63 (n : Int) (h1 : -9223372036854775808 ≤ n) (h2 : n ≤ 9223372036854775807) : bits .xor .u64 (IntKind.u64.wrap n) 9223372036854775808 = ((n + 9223372036854775808).toNat : Int) := by
  have hp : (2 : Nat) ^ 63 = 9223372036854775808 := rfl
  by_cases h0 : 0 ≤ n
  · obtain ⟨m, rfl⟩ := Int.eq_ofNat_of_zero_le h0
    have hw : IntKind.u64.wrap (m : Int) = (m : Int) := by rw [IntKind.wrap_u64]; omega
    have hx := xor_top 63 m (by omega)
    rw [hp] at hx
    have hb := u64_xor_nat m 9223372036854775808 (by omega) (by omega)
    rw [hx] at hb
    rw [hw]
    refine Eq.trans hb ?_
    omega
  · obtain ⟨m, hm⟩ : ∃ m : Nat, (m : Int) = n + 9223372036854775808 := ⟨(n + 9223372036854775808).toNat, by omega⟩
    have hw : IntKind.u64.wrap n = ((9223372036854775808 + m : Nat) : Int) := by rw [IntKind.wrap_u64]; omega
    have hx := xor_top2 63 m (by omega)
    rw [hp] at hx
    have hb := u64_xor_nat (9223372036854775808 + m) 9223372036854775808 (by omega) (by omega)
    rw [hx] at hb
    rw [hw]
    refine Eq.trans hb ?_
    omega
theorem xor_byte (c : UInt8) : bits .xor .u8 255 (c.toNat : Int) = 255 - (c.toNat : Int) := by
  have h := c.toNat_lt
  have hb := u8_xor_nat 255 c.toNat (by omega) (by omega)
  refine Eq.trans hb ?_
  have hall : ∀ k : Fin 256, 255 ^^^ k.val = 255 - k.val := by decide +kernel
  have := hall ⟨c.toNat, by omega⟩
  simp only at this
  rw [this]; omega
end Go.Mu

namespace Go.Proofs.YtgcbkecpplhknaaDoor
open Go.RowKit Go.Mu

/-- A slice's block is the other's, or new. -/
def AtOwn (b : Value) (N : Nat) (v : Value) : Prop := v.ownBlock = b.ownBlock ∨ ∀ k, v.ownBlock = some k → N ≤ k
theorem AtOwn.refl (b : Value) (N : Nat) : AtOwn b N b := .inl rfl
theorem AtOwn.step {b v v' : Value} {N M : Nat} (h : AtOwn b N v) (hat : v'.ownBlock = v.ownBlock ∨ v'.ownBlock = some M) (hM : N ≤ M) : AtOwn b N v' := by
  rcases hat with hat | hat
  · unfold AtOwn; rw [hat]; exact h
  · right; intro k hk; rw [hat] at hk; injection hk with hk; omega
theorem AtOwn.trans {b v v' : Value} {N M : Nat} (h : AtOwn b N v) (h2 : AtOwn v M v') (hM : N ≤ M) : AtOwn b N v' := by
  rcases h2 with h2 | h2
  · unfold AtOwn; rw [h2]; exact h
  · right; intro k hk; have := h2 k hk; omega
theorem AtOwn.down {b v : Value} {N M : Nat} (h : AtOwn b N v) (hM : M ≤ N) : AtOwn b M v := by
  rcases h with h | h
  · exact .inl h
  · right; intro k hk; have := h k hk; omega
theorem grown_refl (w : World) (r : Option Nat) : w.grownBy w r := ⟨rfl, rfl, rfl, Nat.le_refl _, fun _ _ _ => rfl⟩
theorem grown_step {w w1 w2 : World} {b v : Value} {N : Nat} (h : w.grownBy w1 b.ownBlock) (h1 : w1.grownBy w2 v.ownBlock) (ha : AtOwn b N v) (hN : w.heap.size ≤ N) : w.grownBy w2 b.ownBlock := by
  have hs := h.size
  refine ⟨h1.os.trans h.os, h1.tape.trans h.tape, h1.output.trans h.output, Nat.le_trans hs h1.size, fun k hk hne => ?_⟩
  rw [h1.block k (by omega) (by
    rcases ha with ha | ha
    · rw [ha]; exact hne
    · intro he; have := ha k he.symm; omega), h.block k hk hne]
theorem grown_alloc {w w1 : World} {r : Option Nat} (h : w.grownBy w1 r) (o : Obj) : w.grownBy (w1.alloc o) r := by
  have hs := h.size
  refine ⟨h.os, h.tape, h.output, by simp; omega, fun k hk hne => ?_⟩
  rw [Below.heap_alloc w1 o k (by omega), h.block k hk hne]
theorem grown_below {w w1 w2 : World} {r : Option Nat} (h : w.grownBy w1 r) (hb : Below w1.heap.size w1 w2) : w.grownBy w2 r := by
  have hs := h.size
  refine ⟨hb.os.trans h.os, hb.tape.trans h.tape, hb.output.trans h.output, Nat.le_trans hs hb.size, fun k hk hne => ?_⟩
  rw [hb.block k (by omega), h.block k hk hne]
theorem rv_put {w wr : World} {b s : Value} {N : Nat} {v : JV} {cs : List Value} (h : RV w (fun k => some k ≠ b.ownBlock) v cs) (hg : w.grownBy wr b.ownBlock) (ha : AtOwn b N s) (hN : w.heap.size ≤ N) : RV wr (fun k => some k ≠ s.ownBlock) v cs :=
  RV.step (fun k hk hlt => ⟨hg.block k hlt hk, by
    rcases ha with ha | ha
    · rw [ha]; exact hk
    · intro he; have := ha k he.symm; omega⟩) _ _ h
/-- Bytes appended onto a slice of the caller's own. -/
def PutQ (base : Nat) (l : List UInt8) (b : Value) (w : World) (e : Ending) (w' : World) : Prop := ∃ v', e = .returned v' ∧ OwnL rByte 5 base w' l v' ∧ w.grownBy w' b.ownBlock ∧ AtOwn b w.heap.size v'


set_option maxRecDepth 100000 in
set_option maxHeartbeats 4000000 in
theorem keysText_calls (s : ByteArray) (hs : s.size ≤ 1000) (base : Nat) (xs : List UInt8) (b : Value) (w : World) (hb : OwnL rByte 5 base w xs b) (hbase : base ≤ w.heap.size) (hlen : xs.length ≤ 100000000000) : Calls Tryd.prog 140 #[b, .string s] w (PutQ base (xs ++ textK s) b w) := by
  obtain ⟨i0, hi, hz0, hz1, hz2⟩ := byte_info
  have HO0 := K.mk hb
  clear hb
  go_enter Tryd.func140, Tryd.ntmps140
  go_wp2_with fail
  go_loopg [0, 8] s.size (fun g s0 s8 wr => ∃ k : Nat, k ≤ s.size ∧ s.size - k ≤ g ∧ s8 = .int .i64 k ∧ K (OwnL rByte 5 base wr (xs ++ escZ (s.data.toList.take k)) s0) ∧ K (w.grownBy wr b.ownBlock) ∧ K (AtOwn b w.heap.size s0))
  case atStart => exact ⟨0, Nat.zero_le _, Nat.le_refl _, rfl, ⟨by simpa [escZ] using HO0.o⟩, ⟨grown_refl _ _⟩, ⟨AtOwn.refl _ _⟩⟩
  case round =>
    obtain ⟨k, hk, hg, rfl, HO, HG, HA⟩ := hrel
    have hws := HG.o.size
    have HLE := K.mk (show (xs ++ escZ (s.data.toList.take k)).length ≤ 100000002000 by have := escZ_len (s.data.toList.take k); rw [List.length_take] at this; rw [List.length_append]; omega)
    rcases Nat.lt_or_ge k s.size with hlt | hge
    · have hlt' : (k : Int) < (s.size : Int) := by omega
      have HX := K.mk (show s.data.toList[k]? = some (s[k]'hlt) by rw [List.getElem?_eq_getElem (by simpa using hlt)]; rfl)
      by_cases h0 : (s[k]'hlt) = 0
      · have HZ := K.mk (escZ_zero HX.o h0)
        have q0 : (((s[k]'hlt).toNat : Int) == 0) = true := beq_tt (by rw [h0]; rfl)
        clear h0
        go_wp2_with (at_builtin; go_must (refine wpList_append_L (w := wr) rByte rfl _ _ 50 rfl base 5 i0 (.int .u8 0) 1 Tryd.underlying50 hi hz0 hz1 hz2 rfl (by decide) _ (xs ++ escZ (s.data.toList.take k)) (by rfl) HO.o (s[k]'hlt) [.int .u8 ((s[k]'hlt).toNat : Int)] (show rByte.R _ _ _ _ from rfl) (by rfl) (fun j u hu => (Blk.new wr 5 [.int .u8 ((s[k]'hlt).toNat : Int)]).cell j hu) (below_a1 _ _) (by have := HLE.o; unfold maxLen; omega) (by have := HLE.o; omega) (by omega) ?_))
        intro v2 w3 hown' hgrow hnn hat
        have HO2 := K.mk (hown'.cast (show _ = (xs ++ escZ (s.data.toList.take k)) ++ [s[k]'hlt] by simp))
        have HG2 := K.mk (grown_step (grown_alloc HG.o _) hgrow HA.o (Nat.le_refl _))
        have HA2 := K.mk (HA.o.step hat (by first | omega | (simp; omega)))
        have hws2 := HG2.o.size
        have HLE2 := K.mk (show ((xs ++ escZ (s.data.toList.take k)) ++ [s[k]'hlt]).length ≤ 100000002001 by have := HLE.o; rw [List.length_append]; simp only [List.length_cons, List.length_nil]; omega)
        clear hown' hgrow hnn hat
        go_wp2_with (at_builtin; go_must (refine wpList_append_L (w := w3) rByte rfl _ _ 50 rfl base 5 i0 (.int .u8 0) 1 Tryd.underlying50 hi hz0 hz1 hz2 rfl (by decide) _ ((xs ++ escZ (s.data.toList.take k)) ++ [s[k]'hlt]) (by rfl) HO2.o ((255 : UInt8)) [.int .u8 255] (show rByte.R _ _ _ _ from rfl) (by rfl) (fun j u hu => (Blk.new w3 5 [.int .u8 255]).cell j hu) (below_a1 _ _) (by have := HLE2.o; unfold maxLen; omega) (by have := HLE2.o; omega) (by omega) ?_))
        intro v3 w4 hown' hgrow hnn hat
        have HO3 := K.mk (hown'.cast (show _ = xs ++ escZ (List.take (k + 1) s.data.toList) by rw [HZ.o] <;> simp))
        have HG3 := K.mk (grown_step (grown_alloc HG2.o _) hgrow HA2.o (Nat.le_refl _))
        have HA3 := K.mk (HA2.o.step hat (by first | omega | (simp; omega)))
        clear hown' hgrow hnn hat
        go_wp2_with fail
        go_roundg (s.size - (k + 1))
        case measure => omega
        case rel => exact ⟨k + 1, by omega, Nat.le_refl _, by go_num, HO3, HG3, HA3⟩
      · have HZ := K.mk (escZ_one HX.o h0)
        have q0 : (((s[k]'hlt).toNat : Int) == 0) = false := beq_ff (fun h => h0 (UInt8.toNat_inj.1 (by show _ = 0; omega)))
        clear h0
        go_wp2_with (at_builtin; go_must (refine wpList_append_L (w := wr) rByte rfl _ _ 50 rfl base 5 i0 (.int .u8 0) 1 Tryd.underlying50 hi hz0 hz1 hz2 rfl (by decide) _ (xs ++ escZ (s.data.toList.take k)) (by rfl) HO.o (s[k]'hlt) [.int .u8 ((s[k]'hlt).toNat : Int)] (show rByte.R _ _ _ _ from rfl) (by rfl) (fun j u hu => (Blk.new wr 5 [.int .u8 ((s[k]'hlt).toNat : Int)]).cell j hu) (below_a1 _ _) (by have := HLE.o; unfold maxLen; omega) (by have := HLE.o; omega) (by omega) ?_))
        intro v2 w3 hown' hgrow hnn hat
        have HO2 := K.mk (hown'.cast (show _ = xs ++ escZ (List.take (k + 1) s.data.toList) by rw [HZ.o] <;> simp))
        have HG2 := K.mk (grown_step (grown_alloc HG.o _) hgrow HA.o (Nat.le_refl _))
        have HA2 := K.mk (HA.o.step hat (by first | omega | (simp; omega)))
        clear hown' hgrow hnn hat
        go_wp2_with fail
        go_roundg (s.size - (k + 1))
        case measure => omega
        case rel => exact ⟨k + 1, by omega, Nat.le_refl _, by go_num, HO2, HG2, HA2⟩
    · have hlt' : ¬ (k : Int) < (s.size : Int) := by omega
      have HE := K.mk (show escZ (s.data.toList.take k) = escZ s.data.toList by rw [List.take_of_length_le (by simpa using hge)])
      go_wp2_with (at_builtin; go_must (refine wpList_append_all rByte flat_Byte rfl _ _ 50 rfl base 5 i0 (.int .u8 0) 1 Tryd.underlying50 hi hz0 hz1 hz2 rfl (by decide) _ (xs ++ escZ (s.data.toList.take k)) (by rfl) (HO.o.alloc _) [0, 0] (fun _ => True) (some ⟨wr.heap.size, 0, none⟩) 2 (by rfl) (SliceR.ofBlk (r := rByte) (xs := [0, 0]) (t := 5) [[.int .u8 0], [.int .u8 0]] rfl (by rintro j x cs hx hc; match j, hx, hc with | 0, hx, hc => (simp at hx hc; subst hx hc; rfl) | 1, hx, hc => (simp at hx hc; subst hx hc; rfl) | n + 2, hx, hc => simp at hx) (Blk.new _ _ _) trivial (by decide)) (by have := HLE.o; simp only [List.length_cons, List.length_nil, maxLen]; omega) (by have := HLE.o; simp only [List.length_cons, List.length_nil]; omega) (by simp; omega) ?_))
      intro v2 w3 hown' hgrow hat
      have HO2 := K.mk (hown'.cast (show _ = xs ++ textK s by rw [HE.o]; simp [textK]))
      have HG2 := K.mk (grown_step (grown_alloc HG.o _) hgrow HA.o (Nat.le_refl _))
      have HA2 := K.mk (HA.o.step hat (by first | omega | (simp; omega)))
      clear hown' hgrow hat
      go_wp2_with fail
      go_ret
      exact ⟨_, rfl, HO2.o, HG2.o, HA2.o⟩

theorem byteN_shr (m j : Nat) (h : j < 8) : ((byteN m j).toNat : Int) = (m : Int) / 2 ^ (56 - 8 * j) % 256 := by
  unfold byteN
  rw [show (256 : Nat) = 2 ^ 8 from rfl, ← Nat.pow_mul, show 8 * (7 - j) = 56 - 8 * j by omega, UInt8.toNat_ofNat']
  simp
theorem bigN_snoc (m j : Nat) (h : j < 8) : (bigN m).take (j + 1) = (bigN m).take j ++ [byteN m j] := by
  match j, h with
  | 0, _ => rfl
  | 1, _ => rfl
  | 2, _ => rfl
  | 3, _ => rfl
  | 4, _ => rfl
  | 5, _ => rfl
  | 6, _ => rfl
  | 7, _ => rfl
  | j + 8, h => omega
set_option maxRecDepth 100000 in
set_option maxHeartbeats 4000000 in
theorem append64_calls (m : Nat) (hm : m ≤ 18446744073709551615) (base : Nat) (xs : List UInt8) (b : Value) (w : World) (hb : OwnL rByte 5 base w xs b) (hbase : base ≤ w.heap.size) (hlen : xs.length ≤ 100000000000) : Calls Tryd.prog 139 #[b, .int .u64 m] w (PutQ base (xs ++ bigN m) b w) := by
  obtain ⟨i0, hi, hz0, hz1, hz2⟩ := byte_info
  have HO0 := K.mk hb
  clear hb
  go_enter Tryd.func139, Tryd.ntmps139
  go_wp2_with fail
  go_loopg [0, 5] 8 (fun g s0 s5 wr => ∃ j : Nat, j ≤ 8 ∧ 8 - j ≤ g ∧ s5 = .int .i64 ((56 : Int) - 8 * j) ∧ K (OwnL rByte 5 base wr (xs ++ (bigN m).take j) s0) ∧ K (w.grownBy wr b.ownBlock) ∧ K (AtOwn b w.heap.size s0))
  case atStart => exact ⟨0, Nat.zero_le _, Nat.le_refl _, rfl, ⟨by simpa using HO0.o⟩, ⟨grown_refl _ _⟩, ⟨AtOwn.refl _ _⟩⟩
  case round =>
    obtain ⟨j, hk, hg, rfl, HO, HG, HA⟩ := hrel
    have hws := HG.o.size
    have HLE := K.mk (show (xs ++ (bigN m).take j).length ≤ 100000000008 by rw [List.length_append, List.length_take]; omega)
    rcases Nat.lt_or_ge j 8 with hlt | hge
    · have h1 : (0 : Int) ≤ 56 - 8 * (j : Int) := by omega
      have HN := K.mk (bigN_snoc m j hlt)
      have HY := K.mk (byteN_shr m j hlt)
      go_wp2_with (at_builtin; go_must (refine wpList_append_L (w := wr) rByte rfl _ _ 50 rfl base 5 i0 (.int .u8 0) 1 Tryd.underlying50 hi hz0 hz1 hz2 rfl (by decide) _ (xs ++ (bigN m).take j) (by rfl) HO.o (byteN m j) [.int .u8 ((m : Int) / 2 ^ (56 - 8 * j) % 256)] (by show _ = _; rw [HY.o]) (by rfl) (fun j' u hu => (Blk.new wr 5 [.int .u8 ((m : Int) / 2 ^ (56 - 8 * j) % 256)]).cell j' hu) (below_a1 _ _) (by have := HLE.o; unfold maxLen; omega) (by have := HLE.o; omega) (by omega) ?_))
      intro v2 w3 hown' hgrow hnn hat
      have HO2 := K.mk (hown'.cast (show _ = xs ++ (bigN m).take (j + 1) by rw [HN.o] <;> simp))
      have HG2 := K.mk (grown_step (grown_alloc HG.o _) hgrow HA.o (Nat.le_refl _))
      have HA2 := K.mk (HA.o.step hat (by first | omega | (simp; omega)))
      clear hown' hgrow hnn hat
      go_wp2_with fail
      go_roundg (8 - (j + 1))
      case measure => omega
      case rel => exact ⟨j + 1, by omega, Nat.le_refl _, by go_num, HO2, HG2, HA2⟩
    · have h1 : ¬ (0 : Int) ≤ 56 - 8 * (j : Int) := by omega
      have hj8 : j = 8 := by omega
      subst hj8
      go_wp2_with fail
      go_ret
      exact ⟨_, rfl, HO.o, HG.o, HA.o⟩
end Go.Proofs.YtgcbkecpplhknaaDoor

namespace Go.Proofs.YtgcbkecpplhknaaDoor
open Go.RowKit Go.Mu

theorem append64_num (n : Int) (h : IntKind.i64.min ≤ n ∧ n ≤ IntKind.i64.max) (base : Nat) (xs : List UInt8) (b : Value) (w : World) (hb : OwnL rByte 5 base w xs b) (hbase : base ≤ w.heap.size) (hlen : xs.length ≤ 100000000000) : Calls Tryd.prog 139 #[b, .int .u64 (bits .xor .u64 (IntKind.u64.wrap n) 9223372036854775808)] w (PutQ base (xs ++ bigS n) b w) := by
  rw [xor63 n h.1 h.2]
  exact append64_calls _ (u64_off n h).2 base xs b w hb hbase hlen
set_option maxRecDepth 100000 in
set_option maxHeartbeats 4000000 in
theorem put_leaf (m : Nat) (v : JV) (cs : List Value) (base : Nat) (xs : List UInt8) (b : Value) (w : World) (S : Blocks) (h : RV w S v cs) (hk : v.kind = 0 ∨ v.kind = 1 ∨ v.kind = 2) (hb : OwnL rByte 5 base w xs b) (hbase : base ≤ w.heap.size) (hlen : xs.length ≤ 99000000000) : Calls Tryd.prog 116 #[b, .agg cs.toArray] w (PutQ base (xs ++ keyS (m + 1) v) b w) := by
  obtain ⟨i0, hi, hz0, hz1, hz2⟩ := byte_info
  obtain ⟨An, cn, Ai, ci, rfl, hnm, hit, _, hn, ht⟩ := h.wide
  have HS := K.mk (keyS_leaf m v hk)
  have HO0 := K.mk hb
  have HL := K.mk hlen
  clear h hnm hit hn hb
  rcases hk with hk | hk | hk
  · rw [hk] at HS
    rw [hk]
    clear hk
    go_enter Tryd.func116, Tryd.ntmps116
    go_wp2_with (at_builtin; go_must (refine wpList_append_L (w := (w.alloc (.cells #[.int .i64 0, .int .i64 v.num, .string v.text, .slice An v.names.length cn, .slice Ai v.items.length ci] 37))) rByte rfl _ _ 50 rfl base 5 i0 (.int .u8 0) 1 Tryd.underlying50 hi hz0 hz1 hz2 rfl (by decide) _ (xs) (by rfl) (HO0.o.alloc _) ((1 : UInt8)) [.int .u8 1] (show rByte.R _ _ _ _ from rfl) (by first | rfl | (rw [World.size_alloc]; rfl)) (fun j u hu => (Blk.new (w.alloc (.cells #[.int .i64 0, .int .i64 v.num, .string v.text, .slice An v.names.length cn, .slice Ai v.items.length ci] 37)) 5 [.int .u8 1]).cell j hu) (below_a1 _ _) (by have := HL.o; unfold maxLen; omega) (by have := HL.o; omega) (by first | omega | (rw [World.size_alloc]; omega)) ?_))
    intro v2 w3 hown' hgrow hnn hat
    have HO := K.mk hown'
    have HG := K.mk (grown_step (b := b) (grown_alloc (grown_alloc (grown_refl w _) _) _) hgrow (AtOwn.refl _ _) (Nat.le_refl _))
    have HA := K.mk ((AtOwn.refl b w.heap.size).step hat (by first | omega | (simp; omega)))
    have hbx : some w.heap.size ≠ b.ownBlock := fun h => by have := (HO0.o.lt _ h.symm).2; omega
    have HV := K.mk (((Blk.new w 37 [.int .i64 0, .int .i64 v.num, .string v.text, .slice An v.names.length cn, .slice Ai v.items.length ci]).alloc _).grown hgrow hbx)
    have hws := HG.o.size
    have hsz := HV.o.lt
    obtain ⟨v0, v1, v2', v3, v4⟩ := HV.o.five
    clear hown' hgrow hnn hat hbx
    go_wp2_with fail
    go_ret
    exact ⟨_, rfl, HO.o.cast (by rw [HS.o]; rfl), HG.o, HA.o⟩
  · rw [hk] at HS
    rw [hk]
    clear hk
    go_enter Tryd.func116, Tryd.ntmps116
    go_wp2_with (at_builtin; go_must (refine wpList_append_L (w := (w.alloc (.cells #[.int .i64 1, .int .i64 v.num, .string v.text, .slice An v.names.length cn, .slice Ai v.items.length ci] 37))) rByte rfl _ _ 50 rfl base 5 i0 (.int .u8 0) 1 Tryd.underlying50 hi hz0 hz1 hz2 rfl (by decide) _ (xs) (by rfl) (HO0.o.alloc _) ((2 : UInt8)) [.int .u8 2] (show rByte.R _ _ _ _ from rfl) (by first | rfl | (rw [World.size_alloc]; rfl)) (fun j u hu => (Blk.new (w.alloc (.cells #[.int .i64 1, .int .i64 v.num, .string v.text, .slice An v.names.length cn, .slice Ai v.items.length ci] 37)) 5 [.int .u8 2]).cell j hu) (below_a1 _ _) (by have := HL.o; unfold maxLen; omega) (by have := HL.o; omega) (by first | omega | (rw [World.size_alloc]; omega)) ?_))
    intro v2 w3 hown' hgrow hnn hat
    have HO := K.mk hown'
    have HG := K.mk (grown_step (b := b) (grown_alloc (grown_alloc (grown_refl w _) _) _) hgrow (AtOwn.refl _ _) (Nat.le_refl _))
    have HA := K.mk ((AtOwn.refl b w.heap.size).step hat (by first | omega | (simp; omega)))
    have hbx : some w.heap.size ≠ b.ownBlock := fun h => by have := (HO0.o.lt _ h.symm).2; omega
    have HV := K.mk (((Blk.new w 37 [.int .i64 1, .int .i64 v.num, .string v.text, .slice An v.names.length cn, .slice Ai v.items.length ci]).alloc _).grown hgrow hbx)
    have hws := HG.o.size
    have hsz := HV.o.lt
    obtain ⟨v0, v1, v2', v3, v4⟩ := HV.o.five
    clear hown' hgrow hnn hat hbx
    go_wp2_with fail
    go_ret
    exact ⟨_, rfl, HO.o.cast (by rw [HS.o]; rfl), HG.o, HA.o⟩
  · rw [hk] at HS
    rw [hk]
    clear hk
    go_enter Tryd.func116, Tryd.ntmps116
    go_wp2_with (at_builtin; go_must (refine wpList_append_L (w := (w.alloc (.cells #[.int .i64 2, .int .i64 v.num, .string v.text, .slice An v.names.length cn, .slice Ai v.items.length ci] 37))) rByte rfl _ _ 50 rfl base 5 i0 (.int .u8 0) 1 Tryd.underlying50 hi hz0 hz1 hz2 rfl (by decide) _ (xs) (by rfl) (HO0.o.alloc _) ((3 : UInt8)) [.int .u8 3] (show rByte.R _ _ _ _ from rfl) (by first | rfl | (rw [World.size_alloc]; rfl)) (fun j u hu => (Blk.new (w.alloc (.cells #[.int .i64 2, .int .i64 v.num, .string v.text, .slice An v.names.length cn, .slice Ai v.items.length ci] 37)) 5 [.int .u8 3]).cell j hu) (below_a1 _ _) (by have := HL.o; unfold maxLen; omega) (by have := HL.o; omega) (by first | omega | (rw [World.size_alloc]; omega)) ?_))
    intro v2 w3 hown' hgrow hnn hat
    have HO := K.mk hown'
    have HG := K.mk (grown_step (b := b) (grown_alloc (grown_alloc (grown_refl w _) _) _) hgrow (AtOwn.refl _ _) (Nat.le_refl _))
    have HA := K.mk ((AtOwn.refl b w.heap.size).step hat (by first | omega | (simp; omega)))
    have hbx : some w.heap.size ≠ b.ownBlock := fun h => by have := (HO0.o.lt _ h.symm).2; omega
    have HV := K.mk (((Blk.new w 37 [.int .i64 2, .int .i64 v.num, .string v.text, .slice An v.names.length cn, .slice Ai v.items.length ci]).alloc _).grown hgrow hbx)
    have hws := HG.o.size
    have hsz := HV.o.lt
    obtain ⟨v0, v1, v2', v3, v4⟩ := HV.o.five
    clear hown' hgrow hnn hat hbx
    go_wp2_with fail
    go_ret
    exact ⟨_, rfl, HO.o.cast (by rw [HS.o]; rfl), HG.o, HA.o⟩

set_option maxRecDepth 100000 in
set_option maxHeartbeats 4000000 in
theorem put_int (m : Nat) (v : JV) (cs : List Value) (base : Nat) (xs : List UInt8) (b : Value) (w : World) (S : Blocks) (h : RV w S v cs) (hk : v.kind = 3) (hb : OwnL rByte 5 base w xs b) (hbase : base ≤ w.heap.size) (hlen : xs.length ≤ 99000000000) : Calls Tryd.prog 116 #[b, .agg cs.toArray] w (PutQ base (xs ++ keyS (m + 1) v) b w) := by
  obtain ⟨i0, hi, hz0, hz1, hz2⟩ := byte_info
  obtain ⟨An, cn, Ai, ci, rfl, hnm, hit, _, hn, ht⟩ := h.wide
  have HS := K.mk (keyS_int m v hk)
  have HO0 := K.mk hb
  have HL := K.mk hlen
  clear h hnm hit hb
  rw [hk]
  clear hk
  go_enter Tryd.func116, Tryd.ntmps116
  go_wp2_with (at_builtin; go_must (refine wpList_append_L (w := (w.alloc (.cells #[.int .i64 3, .int .i64 v.num, .string v.text, .slice An v.names.length cn, .slice Ai v.items.length ci] 37))) rByte rfl _ _ 50 rfl base 5 i0 (.int .u8 0) 1 Tryd.underlying50 hi hz0 hz1 hz2 rfl (by decide) _ (xs) (by rfl) (HO0.o.alloc _) ((4 : UInt8)) [.int .u8 4] (show rByte.R _ _ _ _ from rfl) (by first | rfl | (rw [World.size_alloc]; rfl)) (fun j u hu => (Blk.new (w.alloc (.cells #[.int .i64 3, .int .i64 v.num, .string v.text, .slice An v.names.length cn, .slice Ai v.items.length ci] 37)) 5 [.int .u8 4]).cell j hu) (below_a1 _ _) (by have := HL.o; unfold maxLen; omega) (by have := HL.o; omega) (by first | omega | (rw [World.size_alloc]; omega)) ?_))
  intro v2 w3 hown' hgrow hnn hat
  have HO := K.mk hown'
  have HG := K.mk (grown_step (b := b) (grown_alloc (grown_alloc (grown_refl w _) _) _) hgrow (AtOwn.refl _ _) (Nat.le_refl _))
  have HA := K.mk ((AtOwn.refl b w.heap.size).step hat (by first | omega | (simp; omega)))
  have hbx : some w.heap.size ≠ b.ownBlock := fun h => by have := (HO0.o.lt _ h.symm).2; omega
  have HV := K.mk (((Blk.new w 37 [.int .i64 3, .int .i64 v.num, .string v.text, .slice An v.names.length cn, .slice Ai v.items.length ci]).alloc _).grown hgrow hbx)
  have hws := HG.o.size
  have hsz := HV.o.lt
  obtain ⟨v0, v1, v2', v3, v4⟩ := HV.o.five
  clear hown' hgrow hnn hat hbx
  have HC := K.mk (append64_num v.num hn base (xs ++ [4]) v2 w3 HO.o (by omega) (by have := HL.o; simp; omega))
  go_wp2_with (go_at_call 139; go_must (refine HC.o.mono ?_); rintro e w4 ⟨v5, rfl, hown, hg, ha⟩; have HO5 := K.mk hown; have HG5 := K.mk (grown_step HG.o hg HA.o (Nat.le_refl _)); have HA5 := K.mk (HA.o.trans ha (by omega)); clear hown hg ha)
  go_ret
  exact ⟨_, rfl, HO5.o.cast (by rw [HS.o]; simp), HG5.o, HA5.o⟩

set_option maxRecDepth 100000 in
set_option maxHeartbeats 4000000 in
theorem put_str (m : Nat) (v : JV) (cs : List Value) (base : Nat) (xs : List UInt8) (b : Value) (w : World) (S : Blocks) (h : RV w S v cs) (hk : v.kind = 4) (hf : formS (m + 1) v = true) (hb : OwnL rByte 5 base w xs b) (hbase : base ≤ w.heap.size) (hlen : xs.length ≤ 99000000000) : Calls Tryd.prog 116 #[b, .agg cs.toArray] w (PutQ base (xs ++ keyS (m + 1) v) b w) := by
  obtain ⟨i0, hi, hz0, hz1, hz2⟩ := byte_info
  obtain ⟨An, cn, Ai, ci, rfl, hnm, hit, _, hn, ht⟩ := h.wide
  have ht60 := text60 hf
  have HS := K.mk (keyS_str m v hk)
  have HO0 := K.mk hb
  have HL := K.mk hlen
  clear h hnm hit hb hf
  rw [hk]
  clear hk
  go_enter Tryd.func116, Tryd.ntmps116
  go_wp2_with (at_builtin; go_must (refine wpList_append_L (w := (w.alloc (.cells #[.int .i64 4, .int .i64 v.num, .string v.text, .slice An v.names.length cn, .slice Ai v.items.length ci] 37))) rByte rfl _ _ 50 rfl base 5 i0 (.int .u8 0) 1 Tryd.underlying50 hi hz0 hz1 hz2 rfl (by decide) _ (xs) (by rfl) (HO0.o.alloc _) ((5 : UInt8)) [.int .u8 5] (show rByte.R _ _ _ _ from rfl) (by first | rfl | (rw [World.size_alloc]; rfl)) (fun j u hu => (Blk.new (w.alloc (.cells #[.int .i64 4, .int .i64 v.num, .string v.text, .slice An v.names.length cn, .slice Ai v.items.length ci] 37)) 5 [.int .u8 5]).cell j hu) (below_a1 _ _) (by have := HL.o; unfold maxLen; omega) (by have := HL.o; omega) (by first | omega | (rw [World.size_alloc]; omega)) ?_))
  intro v2 w3 hown' hgrow hnn hat
  have HO := K.mk hown'
  have HG := K.mk (grown_step (b := b) (grown_alloc (grown_alloc (grown_refl w _) _) _) hgrow (AtOwn.refl _ _) (Nat.le_refl _))
  have HA := K.mk ((AtOwn.refl b w.heap.size).step hat (by first | omega | (simp; omega)))
  have hbx : some w.heap.size ≠ b.ownBlock := fun h => by have := (HO0.o.lt _ h.symm).2; omega
  have HV := K.mk (((Blk.new w 37 [.int .i64 4, .int .i64 v.num, .string v.text, .slice An v.names.length cn, .slice Ai v.items.length ci]).alloc _).grown hgrow hbx)
  have hws := HG.o.size
  have hsz := HV.o.lt
  obtain ⟨v0, v1, v2', v3, v4⟩ := HV.o.five
  clear hown' hgrow hnn hat hbx
  have HC := K.mk (keysText_calls v.text (by omega) base (xs ++ [5]) v2 w3 HO.o (by omega) (by have := HL.o; simp; omega))
  go_wp2_with (go_at_call 140; go_must (refine HC.o.mono ?_); rintro e w4 ⟨v5, rfl, hown, hg, ha⟩; have HO5 := K.mk hown; have HG5 := K.mk (grown_step HG.o hg HA.o (Nat.le_refl _)); have HA5 := K.mk (HA.o.trans ha (by omega)); clear hown hg ha)
  go_ret
  exact ⟨_, rfl, HO5.o.cast (by rw [HS.o]; simp), HG5.o, HA5.o⟩
end Go.Proofs.YtgcbkecpplhknaaDoor

namespace Go.Proofs.YtgcbkecpplhknaaDoor
open Go.RowKit Go.Mu
attribute [local go_sem ↓] Go.wp_at_zero Go.wp_at_succ


theorem box_ne {b s : Value} {N : Nat} (ha : AtOwn b (N + 1) s) (hb : ∀ k, b.ownBlock = some k → k < N) : some N ≠ s.ownBlock := by
  intro he
  rcases ha with ha | ha
  · rw [ha] at he; have := hb _ he.symm; omega
  · have := ha _ he.symm; omega
/-- What is asked of put within put. -/
def PutIH (m : Nat) : Prop := ∀ (v : JV) (cs : List Value) (base : Nat) (xs : List UInt8) (b : Value) (w : World), RV w (fun k => some k ≠ b.ownBlock) v cs → formS m v = true → OwnL rByte 5 base w xs b → base ≤ w.heap.size → xs.length + (keyS m v).length ≤ 99000000000 → Calls Tryd.prog 116 #[b, .agg cs.toArray] w (PutQ base (xs ++ keyS m v) b w)

set_option maxRecDepth 100000 in
set_option maxHeartbeats 8000000 in
theorem put_arr (m : Nat) (hm : m + 1 ≤ 6) (v : JV) (cs : List Value) (base : Nat) (xs : List UInt8) (b : Value) (w : World) (h : RV w (fun k => some k ≠ b.ownBlock) v cs) (hk : v.kind = 5) (hf : formS (m + 1) v = true) (ih : PutIH m) (hb : OwnL rByte 5 base w xs b) (hbase : base ≤ w.heap.size) (hlen : xs.length + (keyS (m + 1) v).length ≤ 99000000000) : Calls Tryd.prog 116 #[b, .agg cs.toArray] w (PutQ base (xs ++ keyS (m + 1) v) b w) := by
  obtain ⟨i0, hi, hz0, hz1, hz2⟩ := byte_info
  obtain ⟨An, cn, Ai, ci, rfl, hnm, hit, _, hn, ht⟩ := h.wide
  have HS := K.mk (keyS_arr m v hk)
  have HKA := K.mk (fun k x (hx : v.items[k]? = some x) => kBody_arr (f := keyS m) hk hx (xs ++ [6]))
  have HLB := K.mk (fun k (hk' : k ≤ v.items.length) => show ((xs ++ [6]) ++ kBody v (keyS m) k).length ≤ 99000000000 by
    have h1 := kBody_le v (keyS m) hk'
    rw [HS.o] at hlen
    simp only [List.length_append, List.length_cons, List.length_nil] at hlen ⊢
    omega)
  have HIF := K.mk (form_parts hf).2.2.1
  have HIH := K.mk ih
  have HIT := K.mk hit
  have HO0 := K.mk hb
  have HOB := K.mk (fun k (hk : b.ownBlock = some k) => (hb.lt k hk).2)
  have h24 := ((form_parts hf).2.2.2 (by omega)).1
  have HL := K.mk (show xs.length ≤ 99000000000 by omega)
  clear h hnm hit hf ih hb hlen
  generalize hvl : v.items.length = n at *
  have HVL := K.mk hvl
  clear hvl
  rw [show (v.kind : Int) = 5 from hk]
  clear hk
  go_enter Tryd.func116, Tryd.ntmps116
  go_wp2_with (at_builtin; go_must (refine wpList_append_L (w := (w.alloc (.cells #[.int .i64 5, .int .i64 v.num, .string v.text, .slice An v.names.length cn, .slice Ai n ci] 37))) rByte rfl _ _ 50 rfl base 5 i0 (.int .u8 0) 1 Tryd.underlying50 hi hz0 hz1 hz2 rfl (by decide) _ (xs) (by rfl) (HO0.o.alloc _) ((6 : UInt8)) [.int .u8 6] (show rByte.R _ _ _ _ from rfl) (by first | rfl | (rw [World.size_alloc]; rfl)) (fun j u hu => (Blk.new (w.alloc (.cells #[.int .i64 5, .int .i64 v.num, .string v.text, .slice An v.names.length cn, .slice Ai n ci] 37)) 5 [.int .u8 6]).cell j hu) (below_a1 _ _) (by have := HL.o; unfold maxLen; omega) (by have := HL.o; omega) (by first | omega | (rw [World.size_alloc]; omega)) ?_))
  intro v2 w3 hown' hgrow hnn hat
  have HO := K.mk hown'
  have HG := K.mk (grown_step (b := b) (grown_alloc (grown_alloc (grown_refl w _) _) _) hgrow (AtOwn.refl _ _) (Nat.le_refl _))
  have HA := K.mk ((AtOwn.refl b (w.heap.size + 1)).step hat (by first | omega | (simp; omega)))
  have hbx : some w.heap.size ≠ b.ownBlock := fun h => by have := HOB.o _ h.symm; omega
  have HV := K.mk (((Blk.new w 37 [.int .i64 5, .int .i64 v.num, .string v.text, .slice An v.names.length cn, .slice Ai n ci]).alloc _).grown hgrow hbx)
  obtain ⟨v0, v1, v2', v3, v4⟩ := HV.o.five
  clear hown' hgrow hnn hat hbx
  go_wp2_with fail
  go_loopg [0, 36] n (fun g s0 s36 wr => ∃ (k : Nat) (s : Value), k ≤ n ∧ n - k ≤ g ∧ s = s0 ∧ s36 = .int .i64 k ∧ K (OwnL rByte 5 base wr ((xs ++ [6]) ++ kBody v (keyS m) k) s) ∧ K (w.grownBy wr b.ownBlock) ∧ K (AtOwn b (w.heap.size + 1) s) ∧ K (Blk wr w.heap.size 37 [.int .i64 5, .int .i64 v.num, .string v.text, .slice An v.names.length cn, .slice Ai n ci]))
  case atStart => exact ⟨0, _, Nat.zero_le _, Nat.le_refl _, rfl, rfl, ⟨HO.o.cast (by simp [kBody])⟩, HG, HA, HV⟩
  case round =>
    clear HO HG HA HV v0 v1 v2' v3 v4
    obtain ⟨k, s, hk1, hg, rfl, rfl, HO, HG, HA, HV⟩ := hrel
    have hsz := HV.o.lt
    have hws := HG.o.size
    rcases Nat.lt_or_ge k n with hlt | hge
    · have hlt' : (k : Int) < (n : Int) := by omega
      obtain ⟨bb, o, x, xcs, rfl, hS, hbb, hx, hRx, hcx⟩ := HIT.o.at k (by rw [HVL.o]; exact hlt)
      have HX := K.mk (HKA.o k x hx)
      have HRX := K.mk (rv_put hRx HG.o HA.o (by omega))
      have HFX := K.mk (HIF.o x (List.mem_of_getElem? hx))
      have hcw := hcx.frame (HG.o.block bb hbb hS)
      obtain ⟨xAn, xcn, xA, xc, rfl, _⟩ := hRx.wide
      obtain ⟨c0, c1, c2, c3, c4⟩ := hcw.five
      have v0 := HV.o.cell 0 rfl
      have HBW := K.mk (below_a1 wr (.cells #[.int .i64 x.kind, .int .i64 x.num, .string x.text, .slice xAn x.names.length xcn, .slice xA x.items.length xc] 37))
      have HLX := K.mk (show ((xs ++ [6]) ++ kBody v (keyS m) k).length + (keyS m x).length ≤ 99000000000 by
        have h1 := HLB.o (k + 1) (by omega)
        rw [← HX.o] at h1
        simpa only [List.length_append] using h1)
      have HC := K.mk (HIH.o x _ base _ s _ (rV.below HRX.o HBW.o) HFX.o (HO.o.more HBW.o) (Nat.le_trans hbase (Nat.le_trans hws HBW.o.size)) HLX.o)
      clear hx hcx hcw hRx
      go_wp2_with (go_at_call 116; go_must (refine HC.o.mono ?_); rintro e w' ⟨v', rfl, hown, hg2, ha2⟩; have HO2 := K.mk (hown.cast (HX.o)); have HG2 := K.mk (grown_step (grown_alloc HG.o _) hg2 HA.o (by omega)); have HA2 := K.mk (HA.o.trans ha2 (by have := HG.o.size; simp; omega)); have HV2 := K.mk ((HV.o.alloc _).grown hg2 (box_ne HA.o HOB.o)); clear hown hg2 ha2)
      go_roundg (n - (k + 1))
      case measure => omega
      case rel => exact ⟨k + 1, _, by omega, Nat.le_refl _, rfl, by go_num, HO2, HG2, HA2, HV2⟩
    · have hlt' : ¬ (k : Int) < (n : Int) := by omega
      have hkk : k = n := by omega
      subst hkk
      have HLE := K.mk (HLB.o k (Nat.le_refl _))
      go_wp2_with (at_builtin; go_must (refine wpList_append_L (w := wr) rByte rfl _ _ 50 rfl base 5 i0 (.int .u8 0) 1 Tryd.underlying50 hi hz0 hz1 hz2 rfl (by decide) _ ((xs ++ [6]) ++ kBody v (keyS m) k) (by rfl) HO.o ((0 : UInt8)) [.int .u8 0] (show rByte.R _ _ _ _ from rfl) (by first | rfl | (rw [World.size_alloc]; rfl)) (fun j u hu => (Blk.new wr 5 [.int .u8 0]).cell j hu) (below_a1 _ _) (by have := HLE.o; unfold maxLen; omega) (by have := HLE.o; omega) (by first | omega | (rw [World.size_alloc]; omega)) ?_))
      intro v2 w3 hown' hgrow hnn hat
      have HO2 := K.mk (hown'.cast (show _ = xs ++ keyS (m + 1) v by rw [HS.o] <;> simp))
      have HG2 := K.mk (grown_step (grown_alloc HG.o _) hgrow HA.o (by omega))
      have HA2 := K.mk ((HA.o.step hat (by first | omega | (simp; omega))).down (Nat.le_succ _))
      clear hown' hgrow hnn hat
      go_wp2_with fail
      go_ret
      exact ⟨_, rfl, HO2.o, HG2.o, HA2.o⟩
end Go.Proofs.YtgcbkecpplhknaaDoor

namespace Go.Proofs.YtgcbkecpplhknaaDoor
open Go.RowKit Go.Mu
attribute [local go_sem ↓] Go.wp_at_zero Go.wp_at_succ


theorem atOwn_lies {s : Value} {g H n cap : Nat} (h : s.ownBlock = some g ∨ g = H) : AtOwn s H (.slice (some ⟨g, 0, none⟩) n cap) := by
  rcases h with h | h
  · exact .inl (by rw [h]; rfl)
  · right; intro k hk
    have : some g = some k := hk
    injection this with this
    omega

set_option maxRecDepth 100000 in
set_option maxHeartbeats 8000000 in
theorem put_obj (m : Nat) (hm : m + 1 ≤ 6) (v : JV) (cs : List Value) (base : Nat) (xs : List UInt8) (b : Value) (w : World) (h : RV w (fun k => some k ≠ b.ownBlock) v cs) (hk : v.kind = 6) (hf : formS (m + 1) v = true) (ih : PutIH m) (hb : OwnL rByte 5 base w xs b) (hbase : base ≤ w.heap.size) (hlen : xs.length + (keyS (m + 1) v).length ≤ 99000000000) : Calls Tryd.prog 116 #[b, .agg cs.toArray] w (PutQ base (xs ++ keyS (m + 1) v) b w) := by
  obtain ⟨i0, hi, hz0, hz1, hz2⟩ := byte_info
  obtain ⟨An, cn, Ai, ci, rfl, hnm, hit, _, hn, ht⟩ := h.wide
  have HS := K.mk (keyS_obj m v hk)
  have HKA := K.mk (fun k s x (hs : v.names[k]? = some s) (hx : v.items[k]? = some x) => kBody_obj (f := keyS m) hk hs hx (xs ++ [7]))
  have HLB := K.mk (fun k (hk' : k ≤ v.items.length) => show ((xs ++ [7]) ++ kBody v (keyS m) k).length ≤ 99000000000 by
    have h1 := kBody_le v (keyS m) hk'
    rw [HS.o] at hlen
    simp only [List.length_append, List.length_cons, List.length_nil] at hlen ⊢
    omega)
  have HIF := K.mk (form_parts hf).2.2.1
  have HIH := K.mk ih
  have HIT := K.mk hit
  have HNM := K.mk hnm
  have hnl : v.names.length = v.items.length := form_names hf hk
  have HNS := K.mk (fun k => name60 hf (by omega) k)
  have HO0 := K.mk hb
  have HOB := K.mk (fun k (hk : b.ownBlock = some k) => (hb.lt k hk).2)
  have h24 := ((form_parts hf).2.2.2 (by omega)).1
  have HL := K.mk (show xs.length ≤ 99000000000 by omega)
  clear h hnm hit hf ih hb hlen
  rw [hnl] at HNM ⊢
  generalize hvl : v.items.length = n at *
  have HVL := K.mk hvl
  have HNL := K.mk hnl
  clear hvl hnl
  rw [show (v.kind : Int) = 6 from hk]
  clear hk
  go_enter Tryd.func116, Tryd.ntmps116
  go_wp2_with (at_builtin; go_must (refine wpList_append_L (w := (w.alloc (.cells #[.int .i64 6, .int .i64 v.num, .string v.text, .slice An n cn, .slice Ai n ci] 37))) rByte rfl _ _ 50 rfl base 5 i0 (.int .u8 0) 1 Tryd.underlying50 hi hz0 hz1 hz2 rfl (by decide) _ (xs) (by rfl) (HO0.o.alloc _) ((7 : UInt8)) [.int .u8 7] (show rByte.R _ _ _ _ from rfl) (by first | rfl | (rw [World.size_alloc]; rfl)) (fun j u hu => (Blk.new (w.alloc (.cells #[.int .i64 6, .int .i64 v.num, .string v.text, .slice An n cn, .slice Ai n ci] 37)) 5 [.int .u8 7]).cell j hu) (below_a1 _ _) (by have := HL.o; unfold maxLen; omega) (by have := HL.o; omega) (by first | omega | (rw [World.size_alloc]; omega)) ?_))
  intro v2 w3 hown' hgrow hnn hat
  have HO := K.mk hown'
  have HG := K.mk (grown_step (b := b) (grown_alloc (grown_alloc (grown_refl w _) _) _) hgrow (AtOwn.refl _ _) (Nat.le_refl _))
  have HA := K.mk ((AtOwn.refl b (w.heap.size + 1)).step hat (by first | omega | (simp; omega)))
  have hbx : some w.heap.size ≠ b.ownBlock := fun h => by have := HOB.o _ h.symm; omega
  have HV := K.mk (((Blk.new w 37 [.int .i64 6, .int .i64 v.num, .string v.text, .slice An n cn, .slice Ai n ci]).alloc _).grown hgrow hbx)
  obtain ⟨v0, v1, v2', v3, v4⟩ := HV.o.five
  clear hown' hgrow hnn hat hbx
  go_wp2_with fail
  go_loopg [0, 36] n (fun g s0 s36 wr => ∃ (k : Nat) (s : Value), k ≤ n ∧ n - k ≤ g ∧ s = s0 ∧ s36 = .int .i64 k ∧ K (OwnL rByte 5 base wr ((xs ++ [7]) ++ kBody v (keyS m) k) s) ∧ K (w.grownBy wr b.ownBlock) ∧ K (AtOwn b (w.heap.size + 1) s) ∧ K (Blk wr w.heap.size 37 [.int .i64 6, .int .i64 v.num, .string v.text, .slice An n cn, .slice Ai n ci]))
  case atStart => exact ⟨0, _, Nat.zero_le _, Nat.le_refl _, rfl, rfl, ⟨HO.o.cast (by simp [kBody])⟩, HG, HA, HV⟩
  case round =>
    clear HO HG HA HV v0 v1 v2' v3 v4
    obtain ⟨k, s, hk1, hg, rfl, rfl, HO, HG, HA, HV⟩ := hrel
    have hsz := HV.o.lt
    have hws := HG.o.size
    rcases Nat.lt_or_ge k n with hlt | hge
    · have hlt' : (k : Int) < (n : Int) := by omega
      have hk0 : (0 : Int) ≤ (k : Int) := by omega
      obtain ⟨bb, o, x, xcs, rfl, hS, hbb, hx, hRx, hcx⟩ := HIT.o.at k (by rw [HVL.o]; exact hlt)
      obtain ⟨bn, on, nm, ncs, rfl, hSn, hbn, hnx, ⟨rfl, hns⟩, hcn⟩ := HNM.o.at1 k (by rw [HNL.o]; exact hlt)
      have hs60 : nm.size ≤ 60 := by have := HNS.o k; rwa [List.getD_eq_getElem?_getD, hnx] at this
      have HX := K.mk (HKA.o k nm x hnx hx)
      have HRX := K.mk (rv_put hRx HG.o HA.o (by omega))
      have HFX := K.mk (HIF.o x (List.mem_of_getElem? hx))
      have hcw := hcx.frame (HG.o.block bb hbb hS)
      obtain ⟨xAn, xcn, xA, xc, rfl, _⟩ := hRx.wide
      obtain ⟨c0, c1, c2, c3, c4⟩ := hcw.five
      have n0 := (hcn.frame (HG.o.block bn hbn hSn)).one
      have v0 := HV.o.cell 0 rfl
      have v3 := HV.o.cell 3 rfl
      have hbn2 : bn < wr.heap.size := Nat.lt_of_lt_of_le hbn hws
      have hSn2 : some bn ≠ s.ownBlock := by
        rcases HA.o with ha | ha
        · rw [ha]; exact hSn
        · intro he; have := ha _ he.symm; omega
      have HBW := K.mk (below_a1 wr (.cells #[.int .i64 x.kind, .int .i64 x.num, .string x.text, .slice xAn x.names.length xcn, .slice xA x.items.length xc] 37))
      have HLX := K.mk (show ((((xs ++ [7]) ++ kBody v (keyS m) k) ++ [1]) ++ textK nm).length + (keyS m x).length ≤ 99000000000 by
        have h1 := HLB.o (k + 1) (by omega)
        rw [← HX.o] at h1
        simpa only [List.length_append] using h1)
      have HL1 := K.mk (show ((xs ++ [7]) ++ kBody v (keyS m) k).length ≤ 99000000000 by have := HLX.o; simp only [List.length_append] at this ⊢; omega)
      have HL2 := K.mk (show (((xs ++ [7]) ++ kBody v (keyS m) k) ++ [1]).length ≤ 99000000000 by have := HLX.o; simp only [List.length_append] at this ⊢; omega)
      have HBX := K.mk (box_ne HA.o HOB.o)
      generalize hwx : wr.alloc (.cells #[.int .i64 x.kind, .int .i64 x.num, .string x.text, .slice xAn x.names.length xcn, .slice xA x.items.length xc] 37) = wx at HBW
      have hwxs : wr.heap.size < wx.heap.size := by rw [← hwx]; simp
      have HOx := K.mk (HO.o.more HBW.o)
      have HVx := K.mk (HV.o.below HBW.o hsz)
      have HXx := K.mk (show Blk wx wr.heap.size 37 [.int .i64 x.kind, .int .i64 x.num, .string x.text, .slice xAn x.names.length xcn, .slice xA x.items.length xc] by rw [← hwx]; exact Blk.new _ _ _)
      have HNx := K.mk ((hcn.frame (HG.o.block bn hbn hSn)).below HBW.o)
      have HGx := K.mk (grown_below HG.o HBW.o)
      have HLTX := K.mk (show some wr.heap.size ≠ s.ownBlock from fun h => by have := (HO.o.lt _ h.symm).2; omega)
      have HT := K.mk (fun (b' : Value) W hW => keysText_calls nm (by omega) base (((xs ++ [7]) ++ kBody v (keyS m) k) ++ [1]) b' W hW)
      clear hx hnx hcx hcw hRx hcn hSn hS
      have v0x := HVx.o.cell 0 rfl
      go_wp2_with fail
      have g3 : ∀ W, wx.grownBy W s.ownBlock → W.cell? ⟨w.heap.size, 3, none⟩ = some (.slice (some ⟨bn, on, none⟩) n cn) := fun W hW => (HVx.o.grown hW HBX.o).cell 3 rfl
      have gn : ∀ W, wx.grownBy W s.ownBlock → W.cell? ⟨bn, on + k, none⟩ = some (.string nm) := fun W hW => (HNx.o.frame (hW.block bn (by omega) hSn2)).one
      clear c0 c1 c2 c3 c4 n0 v0 v3 hwx v0x
      obtain ⟨N, hN⟩ : ∃ N, ((xs ++ [7]) ++ kBody v (keyS m) k).length = N := ⟨_, rfl⟩
      have hb1 : N ≤ 99000000000 := hN ▸ HL1.o
      have HN := K.mk hN
      clear hN
      have hbx2 : base ≤ wx.heap.size := by omega
      go_region_held3 (fun W => wx.grownBy W s.ownBlock) (first | assumption | exact grown_below (grown_refl _ _) (Below.drew (Below.refl _ _)) | exact grown_alloc (by assumption) _) (first
        | ((refine step_append_L rByte (by rfl) _ _ _ (by rfl) base 5 i0 (.int .u8 0) 1 Tryd.underlying50 hi hz0 hz1 hz2 rfl (by decide) s ((xs ++ [7]) ++ kBody v (keyS m) k) N HN.o (by rfl) ((HOx.o.alloc _).more (Below.drew (Below.refl _ _))) (1 : UInt8) [.int .u8 1] (show rByte.R _ _ _ _ from rfl) ⟨wx.heap.size, 0, none⟩ 1 (by rfl) (World.news_of_block (cs := #[.int .u8 1]) (t := 5) (fr := (0, 0)) (heap_alloc_new wx _)) (by unfold maxLen; omega) (by omega) (by simp; omega) (wx.heap.size + 1) (by simp) ?_; intro gg cap w5 hown1 hgrow hat hlt2; have HO5 := K.mk hown1; have HS5 : wx.grownBy w5 s.ownBlock := grown_step (b := s) (grown_below (grown_refl _ _) ((below_a1 wx _).drew)) hgrow (AtOwn.refl _ _) (Nat.le_refl _); have hs5 : wx.heap.size + 1 ≤ w5.heap.size := Nat.le_trans (Nat.le_of_eq (World.size_alloc wx _).symm) hgrow.size; have HA5 := K.mk (atOwn_lies (n := N + 1) (cap := cap) hat); clear hown1 hgrow hat))
        | (go_at_call 140; refine (HT.o _ _ HO5.o (Nat.le_trans hbx2 HS5.size) (by have := HL2.o; omega)).mono ?_; rintro e w6 ⟨v6, rfl, hown6, hg6, ha6⟩; have HO6 := K.mk hown6; have HA6 := K.mk (HA5.o.trans ha6 hs5); have HS6 : wx.grownBy w6 s.ownBlock := grown_step HS5 hg6 HA5.o (by omega); clear hown6 hg6 ha6))
      have HX6 := K.mk (HXx.o.grown HS6 HLTX.o)
      have HV6 := K.mk (HVx.o.grown HS6 HBX.o)
      have HG6 := K.mk (grown_step HGx.o HS6 HA.o (by omega))
      have HAs := K.mk (HA.o.trans HA6.o (by omega))
      have HR6 := K.mk (rv_put (rV.below HRX.o HBW.o) HS6 HA6.o (Nat.le_succ _))
      have hb6 := HS6.size
      have HC := K.mk (HIH.o x _ base _ v6 w6 HR6.o HFX.o HO6.o (by omega) HLX.o)
      have hsz6 := HV6.o.lt
      have HBX6 := K.mk (box_ne HAs.o HOB.o)
      obtain ⟨c0, c1, c2, c3, c4⟩ := HX6.o.five
      clear g3 gn HS6 HS5
      go_wp2_with (go_at_call 116; go_must (refine HC.o.mono ?_); rintro e w' ⟨v', rfl, hown, hg2, ha2⟩; have HO2 := K.mk (hown.cast HX.o); have HG2 := K.mk (grown_step HG6.o hg2 HAs.o (by omega)); have HA2 := K.mk (HAs.o.trans ha2 (by have := HG6.o.size; have := HX6.o.lt; omega)); have HV2 := K.mk (HV6.o.grown hg2 HBX6.o); clear hown hg2 ha2)
      go_roundg (n - (k + 1))
      case measure => omega
      case rel => exact ⟨k + 1, _, by omega, Nat.le_refl _, rfl, by go_num, HO2, HG2, HA2, HV2⟩
    · have hlt' : ¬ (k : Int) < (n : Int) := by omega
      have hkk : k = n := by omega
      subst hkk
      have HLE := K.mk (HLB.o k (Nat.le_refl _))
      go_wp2_with (at_builtin; go_must (refine wpList_append_L (w := wr) rByte rfl _ _ 50 rfl base 5 i0 (.int .u8 0) 1 Tryd.underlying50 hi hz0 hz1 hz2 rfl (by decide) _ ((xs ++ [7]) ++ kBody v (keyS m) k) (by rfl) HO.o ((0 : UInt8)) [.int .u8 0] (show rByte.R _ _ _ _ from rfl) (by first | rfl | (rw [World.size_alloc]; rfl)) (fun j u hu => (Blk.new wr 5 [.int .u8 0]).cell j hu) (below_a1 _ _) (by have := HLE.o; unfold maxLen; omega) (by have := HLE.o; omega) (by first | omega | (rw [World.size_alloc]; omega)) ?_))
      intro v2 w3 hown' hgrow hnn hat
      have HO2 := K.mk (hown'.cast (show _ = xs ++ keyS (m + 1) v by rw [HS.o] <;> simp))
      have HG2 := K.mk (grown_step (grown_alloc HG.o _) hgrow HA.o (by omega))
      have HA2 := K.mk ((HA.o.step hat (by first | omega | (simp; omega))).down (Nat.le_succ _))
      clear hown' hgrow hnn hat
      go_wp2_with fail
      go_ret
      exact ⟨_, rfl, HO2.o, HG2.o, HA2.o⟩

theorem put_calls : ∀ (m : Nat), m ≤ 6 → PutIH m
  | 0, _ => fun v cs base xs b w h hf => by simp [formS] at hf
  | m + 1, hm => fun v cs base xs b w h hf hb hbase hlen => by
    have hk := form_kind hf
    have ih := put_calls m (by omega)
    have hl : xs.length ≤ 99000000000 := by omega
    by_cases h0 : v.kind = 0 ∨ v.kind = 1 ∨ v.kind = 2
    · exact put_leaf m v cs base xs b w _ h h0 hb hbase hl
    by_cases h3 : v.kind = 3
    · exact put_int m v cs base xs b w _ h h3 hb hbase hl
    by_cases h4 : v.kind = 4
    · exact put_str m v cs base xs b w _ h h4 hf hb hbase hl
    by_cases h5 : v.kind = 5
    · exact put_arr m hm v cs base xs b w h h5 hf ih hb hbase hlen
    · exact put_obj m hm v cs base xs b w h (by omega) hf ih hb hbase hlen
end Go.Proofs.YtgcbkecpplhknaaDoor
