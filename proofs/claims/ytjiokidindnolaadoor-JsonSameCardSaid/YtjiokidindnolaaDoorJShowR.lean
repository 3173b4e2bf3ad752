/- Walks: Digits, Quoted, show and Print of the reference. -/
import Derived.Test.YtjiokidindnolaaDoorJShow
import Derived.Laws.BytesString
import Derived.Laws.IdiomStrings


import Derived.WalkKit
import Derived.Deep.QuietTactic
import Derived.BigQuiet
import Derived.Outline
import Derived.Deep.DeepMust
import Derived.Deep.CutBlock
import Derived.Deep.DeepCutAuto
import Derived.Deep.RegionWith
import Derived.WalkSpells
import Derived.WalkLawsBesides
import Derived.Test.YtjiokidindnolaaDoorMu
import Derived.Test.YtjiokidindnolaaDoorProg
set_option linter.unusedVariables false
set_option linter.unusedSimpArgs false
namespace Go.Proofs.YtjiokidindnolaaDoor
open Go.RowKit Go.Mu

/-- A row of bytes in a new block, as a string. -/
theorem conv_new (P : Program) (w : World) (src dst e : TypeId) (l : List UInt8) (cells : Array Value) (fz : Nat × Nat) (hc : cells = (l.map fun b => Value.int .u8 (b.toNat : Int)).toArray) (cap : Nat) (hs : P.underlying src = some (.slice e)) (he : P.underlying e = some (.int .u8)) (hd : P.underlying dst = some .string) :
    (convert src dst (.slice (some ⟨w.heap.size, 0, none⟩) l.length cap)).run P (w.alloc (.cells cells e fz)) = .ok (.string (bs l)) (w.alloc (.cells cells e fz)) := by
  refine run_convert_bytes_back (P := P) _ src dst e ⟨w.heap.size, 0, none⟩ cap l hs he hd (fun j hj => ?_)
  have hb : (w.alloc (.cells cells e fz)).heap[w.heap.size]? = some (.cells cells e fz) := heap_alloc_new w _
  have ha : (⟨w.heap.size, 0, none⟩ : Addr).add j = ⟨w.heap.size, j, none⟩ := by unfold Addr.add; split <;> simp_all
  rw [ha]
  unfold World.cell?
  rw [hb, hc]
  simp [hj]

theorem digits_small (n : Int) (h0 : 0 ≤ n) (h1 : n < 10) (w : World) :
    Calls Tryd.prog 36 #[.int .i64 n] w fun e w' => e = .returned (.string (bs (Lib.itoa n))) ∧ Below w.heap.size w w' := by
  have hi : Lib.itoa n = [UInt8.ofNat (48 + n.toNat)] := by
    unfold Lib.itoa; rw [if_neg (by omega), Lib.decDigits_one (by omega)]
  have hcv := conv_new Tryd.prog w 38 9 5 [UInt8.ofNat (48 + n.toNat)] #[.int .u8 (48 + n)] (0, 0) (by
    have e : ((UInt8.ofNat (48 + n.toNat)).toNat : Int) = 48 + n := by rw [UInt8.toNat_ofNat']; omega
    rw [List.map_cons, e]; rfl) 1 (by kernel_rfl) (by kernel_rfl) (by kernel_rfl)
  rw [← hi] at hcv
  have hl : (Lib.itoa n).length = 1 := by rw [hi]; rfl
  rw [hl] at hcv
  clear hi hl
  go_enter Tryd.func36, Tryd.ntmps36
  go_wp2_with fail
  go_ret
  exact ⟨rfl, below_a1 _ _⟩

theorem digits_minus (n : Int) (h0 : n < 0) (h1 : -10 < n) (w : World) :
    Calls Tryd.prog 36 #[.int .i64 n] w fun e w' => e = .returned (.string (bs (Lib.itoa n))) ∧ Below w.heap.size w w' := by
  have HC := K.mk (digits_small (-n) (by omega) (by omega) w)
  have hi : (⟨#[45]⟩ : ByteArray) ++ bs (Lib.itoa (-n)) = bs (Lib.itoa n) := by
    have e : (⟨#[45]⟩ : ByteArray) = bs [45] := rfl
    rw [e, bs_append]
    congr 1
    unfold Lib.itoa; rw [if_neg (by omega), if_pos h0]
    have e2 : (-n).toNat = n.natAbs := by omega
    rw [e2]; rfl
  have HI := K.mk hi
  clear hi
  have h2 : ¬ 0 ≤ n := by omega
  have hsz : (bs (Lib.itoa (-n))).size ≤ 21 := by rw [bs_size]; exact Lib.itoa_length_le _ (by omega) (by omega)
  go_enter Tryd.func36, Tryd.ntmps36
  go_wp2_with (go_at_call 36; go_must (refine HC.o.mono ?_); rintro e w' ⟨rfl, hb'⟩)
  go_ret
  exact ⟨by rw [← HI.o]; rfl, hb'⟩

theorem itoa_ten (n : Int) (h : 10 ≤ n) : Lib.itoa (n / 10) ++ Lib.itoa (n % 10) = Lib.itoa n := by
  unfold Lib.itoa
  rw [if_neg (by omega), if_neg (by omega), if_neg (by omega), Lib.decDigits_one (i := (n % 10).toNat) (by omega)]
  conv => rhs; rw [Lib.decDigits, dif_neg (by omega)]
  rw [show (n / 10).toNat = n.toNat / 10 by omega, show (n % 10).toNat = n.toNat % 10 by omega]
theorem itoa_minus_ten (n : Int) (h : 10 ≤ n) : Lib.itoa (-(n / 10)) ++ Lib.itoa (n % 10) = Lib.itoa (-n) := by
  unfold Lib.itoa
  rw [if_pos (by omega), if_neg (by omega), if_pos (by omega), Lib.decDigits_one (i := (n % 10).toNat) (by omega)]
  conv => rhs; rw [Lib.decDigits, dif_neg (by omega)]
  rw [show (-(n / 10)).natAbs = (-n).natAbs / 10 by omega, show (n % 10).toNat = (-n).natAbs % 10 by omega]; rfl

set_option maxHeartbeats 4000000 in
theorem digits_great (m q r : Int) (hm : 10 ≤ m) (hmx : m ≤ 9223372036854775808) (hq : q = m / 10) (hr : r = m % 10) (n : Int) (hn : n = -m) (w : World)
    (ih : ∀ n' : Int, (n' = -q ∨ n' = r) → ∀ w, Calls Tryd.prog 36 #[.int .i64 n'] w fun e w' => e = .returned (.string (bs (Lib.itoa n'))) ∧ Below w.heap.size w w') :
    Calls Tryd.prog 36 #[.int .i64 n] w fun e w' => e = .returned (.string (bs (Lib.itoa n))) ∧ Below w.heap.size w w' := by
  have e1 : Int.tdiv n 10 = -q := by rw [hn, hq, Int.neg_tdiv, Int.tdiv_eq_ediv_of_nonneg (by omega)]
  have e2 : Int.tmod n 10 = -r := by rw [hn, hr, Int.neg_tmod, Int.tmod_eq_emod_of_nonneg (by omega)]
  have HI := K.mk (show Lib.itoa (-q) ++ Lib.itoa r = Lib.itoa n by rw [hq, hr, hn]; exact itoa_minus_ten m hm)
  have HC := K.mk ih
  have h1 : n < 0 := by omega
  have h2 : ¬ 0 ≤ n := by omega
  have h3 : ¬ -10 < n := by omega
  have hlo : -9223372036854775808 ≤ n := by omega
  have hr0 : 0 ≤ r := by omega
  have hr9 : r < 10 := by omega
  have hq0 : 1 ≤ q := by omega
  have hq9 : q ≤ 922337203685477580 := by omega
  have hs1 : (bs (Lib.itoa (-q))).size ≤ 21 := by rw [bs_size]; exact Lib.itoa_length_le _ (by omega) (by omega)
  have hs2 : (bs (Lib.itoa r)).size ≤ 21 := by rw [bs_size]; exact Lib.itoa_length_le _ (by omega) (by omega)
  clear hq hr hn ih hm hmx
  rcases Int.lt_or_le 0 r with hr | hr
  · go_enter Tryd.func36, Tryd.ntmps36
    go_wp2_with (go_at_call 36; go_must (refine (HC.o _ (by first | exact .inl rfl | exact .inr rfl) _).mono ?_); rintro e w1 ⟨rfl, hb1⟩)
    go_ret
    exact ⟨by rw [← HI.o, ← bs_append]; rfl, below2 ‹Below w.heap.size w _› hb1⟩
  · obtain rfl : r = 0 := by omega
    have e2' : Int.tmod n 10 = 0 := by rw [e2]; rfl
    clear e2 hr
    go_enter Tryd.func36, Tryd.ntmps36
    go_wp2_with (go_at_call 36; go_must (refine (HC.o _ (by first | exact .inl rfl | exact .inr rfl) _).mono ?_); rintro e w1 ⟨rfl, hb1⟩)
    go_ret
    exact ⟨by rw [← HI.o, ← bs_append]; rfl, below2 ‹Below w.heap.size w _› hb1⟩

set_option maxHeartbeats 4000000 in
theorem digits_big (n q r : Int) (hm : 10 ≤ n) (hmx : n ≤ 9223372036854775807) (hq : q = n / 10) (hr : r = n % 10) (w : World)
    (ih : ∀ n' : Int, (n' = q ∨ n' = r) → ∀ w, Calls Tryd.prog 36 #[.int .i64 n'] w fun e w' => e = .returned (.string (bs (Lib.itoa n'))) ∧ Below w.heap.size w w') :
    Calls Tryd.prog 36 #[.int .i64 n] w fun e w' => e = .returned (.string (bs (Lib.itoa n))) ∧ Below w.heap.size w w' := by
  have e1 : Int.tdiv n 10 = q := by rw [hq, Int.tdiv_eq_ediv_of_nonneg (by omega)]
  have e2 : Int.tmod n 10 = r := by rw [hr, Int.tmod_eq_emod_of_nonneg (by omega)]
  have HI := K.mk (show Lib.itoa q ++ Lib.itoa r = Lib.itoa n by rw [hq, hr]; exact itoa_ten n hm)
  have HC := K.mk ih
  have h1 : ¬ n < 0 := by omega
  have h2 : 0 ≤ n := by omega
  have h3 : ¬ n < 10 := by omega
  have hr0 : ¬ r < 0 := by omega
  have hr9 : r < 10 := by omega
  have hq0 : 1 ≤ q := by omega
  have hq9 : q ≤ 922337203685477580 := by omega
  have hs1 : (bs (Lib.itoa q)).size ≤ 21 := by rw [bs_size]; exact Lib.itoa_length_le _ (by omega) (by omega)
  have hs2 : (bs (Lib.itoa r)).size ≤ 21 := by rw [bs_size]; exact Lib.itoa_length_le _ (by omega) (by omega)
  clear hq hr ih hm
  go_enter Tryd.func36, Tryd.ntmps36
  go_wp2_with (go_at_call 36; go_must (refine (HC.o _ (by first | exact .inl rfl | exact .inr rfl) _).mono ?_); rintro e w1 ⟨rfl, hb1⟩)
  go_ret
  exact ⟨by rw [← HI.o, ← bs_append]; rfl, below2 ‹Below w.heap.size w _› hb1⟩

theorem Digits_calls : ∀ (k : Nat) (n : Int), n.natAbs < k → -9223372036854775808 ≤ n → n ≤ 9223372036854775807 → ∀ (w : World),
    Calls Tryd.prog 36 #[.int .i64 n] w fun e w' => e = .returned (.string (bs (Lib.itoa n))) ∧ Below w.heap.size w w' := by
  intro k
  induction k with
  | zero => intro n h; exact absurd h (Nat.not_lt_zero _)
  | succ k ih =>
    intro n hk hlo hhi w
    by_cases ha : 0 ≤ n ∧ n < 10
    · exact digits_small n ha.1 ha.2 w
    by_cases hb : n < 0 ∧ -10 < n
    · exact digits_minus n hb.1 hb.2 w
    by_cases hn : n < 0
    · exact digits_great (-n) _ _ (by omega) (by omega) rfl rfl n (by omega) w (fun n' hn' => ih n' (by rcases hn' with rfl | rfl <;> omega) (by rcases hn' with rfl | rfl <;> omega) (by rcases hn' with rfl | rfl <;> omega))
    · exact digits_big n _ _ (by omega) (by omega) rfl rfl w (fun n' hn' => ih n' (by rcases hn' with rfl | rfl <;> omega) (by rcases hn' with rfl | rfl <;> omega) (by rcases hn' with rfl | rfl <;> omega))
end Go.Proofs.YtjiokidindnolaaDoor
