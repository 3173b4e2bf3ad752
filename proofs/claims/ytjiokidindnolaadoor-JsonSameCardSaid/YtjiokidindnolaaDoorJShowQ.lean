/- Walks: Quoted, show and Print of the reference. -/
import Derived.Test.YtjiokidindnolaaDoorJShowR
import Derived.Test.YtjiokidindnolaaDoorJRef


import Derived.WalkKit
import Derived.Deep.QuietTactic
import Derived.BigQuiet
import Derived.Outline
import Derived.Deep.DeepMust
import Derived.Deep.CutBlock
import Derived.Deep.DeepCutAuto
import Derived.Deep.RegionWith
import Derived.WalkSpells
import Derived.WalkLawsBesides
import Derived.Test.YtjiokidindnolaaDoorMu
import Derived.Test.YtjiokidindnolaaDoorProg
set_option linter.unusedVariables false
set_option linter.unusedSimpArgs false
namespace Go.Proofs.YtjiokidindnolaaDoor
open Go.RowKit Go.Mu

theorem byte_eq (b : UInt8) (n : Nat) (hn : n < 256) (h : ((b.toNat : Int) == (n : Int)) = true) : b = UInt8.ofNat n := by
  apply UInt8.toNat_inj.1
  rw [UInt8.toNat_ofNat']
  have h2 : (b.toNat : Int) = n := by simpa using h
  omega
theorem esc34 (b : UInt8) (h : ((b.toNat : Int) == 34) = true) : bs (escS b) = ⟨#[92, 34]⟩ := by rw [byte_eq b 34 (by decide) h]; decide
theorem esc92 (b : UInt8) (h : ((b.toNat : Int) == 92) = true) : bs (escS b) = ⟨#[92, 92]⟩ := by rw [byte_eq b 92 (by decide) h]; decide
theorem esc8 (b : UInt8) (h : ((b.toNat : Int) == 8) = true) : bs (escS b) = ⟨#[92, 98]⟩ := by rw [byte_eq b 8 (by decide) h]; decide
theorem esc9 (b : UInt8) (h : ((b.toNat : Int) == 9) = true) : bs (escS b) = ⟨#[92, 116]⟩ := by rw [byte_eq b 9 (by decide) h]; decide
theorem esc10 (b : UInt8) (h : ((b.toNat : Int) == 10) = true) : bs (escS b) = ⟨#[92, 110]⟩ := by rw [byte_eq b 10 (by decide) h]; decide
theorem esc12 (b : UInt8) (h : ((b.toNat : Int) == 12) = true) : bs (escS b) = ⟨#[92, 102]⟩ := by rw [byte_eq b 12 (by decide) h]; decide
theorem esc13 (b : UInt8) (h : ((b.toNat : Int) == 13) = true) : bs (escS b) = ⟨#[92, 114]⟩ := by rw [byte_eq b 13 (by decide) h]; decide
theorem byte_ne (b : UInt8) (n : Nat) (h : ((b.toNat : Int) == (n : Int)) = false) : ¬ b = UInt8.ofNat n ∨ 256 ≤ n := by
  by_cases hn : n < 256
  · left; rintro rfl
    rw [UInt8.toNat_ofNat'] at h
    have h2 : ¬ (((n % 2 ^ 8 : Nat) : Int) = n) := by simpa using h
    omega
  · right; omega
theorem escS_low (b : UInt8) (h8 : ((b.toNat : Int) == 8) = false) (h9 : ((b.toNat : Int) == 9) = false) (h10 : ((b.toNat : Int) == 10) = false) (h12 : ((b.toNat : Int) == 12) = false) (h13 : ((b.toNat : Int) == 13) = false)
    (hlt : (b.toNat : Int) < 32) : escS b = [92, 117, 48, 48, hexS (b.toNat / 16), hexS (b.toNat % 16)] := by
  have k8 : ¬ b = 8 := (byte_ne b 8 h8).resolve_right (by decide)
  have k9 : ¬ b = 9 := (byte_ne b 9 h9).resolve_right (by decide)
  have k10 : ¬ b = 10 := (byte_ne b 10 h10).resolve_right (by decide)
  have k12 : ¬ b = 12 := (byte_ne b 12 h12).resolve_right (by decide)
  have k13 : ¬ b = 13 := (byte_ne b 13 h13).resolve_right (by decide)
  have k34 : ¬ b = 34 := by rintro rfl; exact absurd hlt (by decide)
  have k92 : ¬ b = 92 := by rintro rfl; exact absurd hlt (by decide)
  have k32 : b < 32 := by rw [UInt8.lt_iff_toNat_lt]; show b.toNat < 32; omega
  unfold escS
  rw [if_neg k34, if_neg k92, if_neg k8, if_neg k9, if_neg k10, if_neg k12, if_neg k13, if_pos k32]
theorem escS_self (b : UInt8) (h34 : ((b.toNat : Int) == 34) = false) (h92 : ((b.toNat : Int) == 92) = false) (hge : 32 ≤ (b.toNat : Int)) : escS b = [b] := by
  have k34 : ¬ b = 34 := (byte_ne b 34 h34).resolve_right (by decide)
  have k92 : ¬ b = 92 := (byte_ne b 92 h92).resolve_right (by decide)
  have hn : ∀ n : Nat, n < 32 → ¬ b = UInt8.ofNat n := fun n hn => by
    rintro rfl
    rw [UInt8.toNat_ofNat'] at hge
    omega
  have k32 : ¬ b < 32 := by rw [UInt8.lt_iff_toNat_lt]; show ¬ b.toNat < 32; omega
  unfold escS
  rw [if_neg k34, if_neg k92, if_neg (show ¬ b = 8 from hn 8 (by decide)), if_neg (show ¬ b = 9 from hn 9 (by decide)), if_neg (show ¬ b = 10 from hn 10 (by decide)), if_neg (show ¬ b = 12 from hn 12 (by decide)), if_neg (show ¬ b = 13 from hn 13 (by decide)), if_neg k32]

theorem esc_step (s : ByteArray) (k : Nat) (hlt : k < s.size) (t u : ByteArray) (HD : t = bs (34 :: escL (s.data.toList.take k))) (he : bs (escS (s[k]'hlt)) = u) : t ++ u = bs (34 :: escL (s.data.toList.take (k + 1))) := by
  have hget : s.data.toList[k]? = some (s[k]'hlt) := by
    rw [List.getElem?_eq_getElem (by show k < s.size; exact hlt)]; rfl
  rw [HD, ← he, bs_append, escL_snoc _ k _ hget]; rfl
theorem ext_one (s : ByteArray) (k : Nat) (hlt : k < s.size) : s.extract k (k + 1) = bs [s[k]'hlt] := by
  have h : (s.extract k (k + 1)).data.toList = [s[k]'hlt] := by
    rw [ByteArray.data_extract, Array.toList_extract]
    have hget : s.data.toList[k]? = some (s[k]'hlt) := by
      rw [List.getElem?_eq_getElem (by show k < s.size; exact hlt)]; rfl
    rw [List.extract, show k + 1 - k = 1 by omega]
    obtain ⟨hl, he⟩ := List.getElem?_eq_some_iff.1 hget
    rw [List.drop_eq_getElem_cons hl, he]; rfl
  rw [← bs_of (s.extract k (k + 1)), h]
theorem lit_hex (q : Nat) (hq : q < 16) : (⟨#[48, 49, 50, 51, 52, 53, 54, 55, 56, 57, 97, 98, 99, 100, 101, 102]⟩ : ByteArray).extract q (q + 1) = bs [hexS q] := by
  have h : ∀ i : Fin 16, (⟨#[48, 49, 50, 51, 52, 53, 54, 55, 56, 57, 97, 98, 99, 100, 101, 102]⟩ : ByteArray).extract i.val (i.val + 1) = bs [hexS i.val] := by decide
  exact h ⟨q, hq⟩
theorem esc_low_bs (b : UInt8) (p q : Nat) (hp : p = b.toNat / 16) (hq : q = b.toNat % 16) (hp16 : p < 16) (hq16 : q < 16) (h8 : ((b.toNat : Int) == 8) = false) (h9 : ((b.toNat : Int) == 9) = false) (h10 : ((b.toNat : Int) == 10) = false) (h12 : ((b.toNat : Int) == 12) = false) (h13 : ((b.toNat : Int) == 13) = false)
    (hlt : (b.toNat : Int) < 32) :
    bs (escS b) = (⟨#[92, 117, 48, 48]⟩ : ByteArray) ++ (⟨#[48, 49, 50, 51, 52, 53, 54, 55, 56, 57, 97, 98, 99, 100, 101, 102]⟩ : ByteArray).extract p (p + 1) ++ (⟨#[48, 49, 50, 51, 52, 53, 54, 55, 56, 57, 97, 98, 99, 100, 101, 102]⟩ : ByteArray).extract q (q + 1) := by
  rw [escS_low b h8 h9 h10 h12 h13 hlt, lit_hex p hp16, lit_hex q hq16, show (⟨#[92, 117, 48, 48]⟩ : ByteArray) = bs [92, 117, 48, 48] from rfl, bs_append, bs_append, hp, hq]; rfl
theorem lit_hex_size (q : Nat) (hq : q < 16) : ((⟨#[48, 49, 50, 51, 52, 53, 54, 55, 56, 57, 97, 98, 99, 100, 101, 102]⟩ : ByteArray).extract q (q + 1)).size = 1 := by rw [lit_hex q hq, bs_size]; rfl
theorem low_size (p q : Nat) (hp : p < 16) (hq : q < 16) : ((⟨#[92, 117, 48, 48]⟩ : ByteArray) ++ (⟨#[48, 49, 50, 51, 52, 53, 54, 55, 56, 57, 97, 98, 99, 100, 101, 102]⟩ : ByteArray).extract p (p + 1) ++ (⟨#[48, 49, 50, 51, 52, 53, 54, 55, 56, 57, 97, 98, 99, 100, 101, 102]⟩ : ByteArray).extract q (q + 1)).size ≤ 6 := by
  rw [ByteArray.size_append, ByteArray.size_append, lit_hex_size p hp, lit_hex_size q hq]; decide
theorem esc_sz (t u : ByteArray) (k : Nat) (ht : t.size ≤ 6 * k + 1) (hu : u.size ≤ 6) : (t ++ u).size ≤ 6 * (k + 1) + 1 := by
  rw [ByteArray.size_append]; omega

set_option maxRecDepth 100000 in
set_option maxHeartbeats 8000000 in
theorem Quoted_calls (s : ByteArray) (hs : s.size ≤ 1000) (w : World) :
    Calls Tryd.prog 37 #[.string s] w fun e w' => e = .returned (.string (bs (quotedS s))) ∧ Below w.heap.size w w' := by
  go_enter Tryd.func37, Tryd.ntmps37
  go_wp2_with fail
  go_loopg [3, 4] s.size (fun g s3 s4 wr => ∃ (k : Nat) (t : ByteArray), k ≤ s.size ∧ s.size - k ≤ g ∧ s4 = .int .i64 k ∧ s3 = .string t ∧ K (t = bs (34 :: escL (s.data.toList.take k))) ∧ t.size ≤ 6 * k + 1 ∧ K (Below w.heap.size w wr))
  case atStart => exact ⟨0, _, Nat.zero_le _, Nat.le_refl _, rfl, rfl, ⟨rfl⟩, by decide, ⟨Below.refl _ _⟩⟩
  case round =>
    obtain ⟨k, t, hk', hg, rfl, rfl, HD, ht, HB⟩ := hrel
    rcases Nat.lt_or_ge k s.size with hlt | hge
    · have hlt' : (k : Int) < (s.size : Int) := by omega
      have hz32 : (s[k]'hlt).toNat < 256 := (s[k]'hlt).toNat_lt
      obtain ⟨p, hp⟩ : ∃ p, p = (s[k]'hlt).toNat / 16 := ⟨_, rfl⟩
      obtain ⟨q, hq⟩ : ∃ q, q = (s[k]'hlt).toNat % 16 := ⟨_, rfl⟩
      have e1 : Int.tdiv ((s[k]'hlt).toNat : Int) 16 = (p : Int) := by rw [Int.tdiv_eq_ediv_of_nonneg (by omega)]; omega
      have e2 : Int.tmod ((s[k]'hlt).toNat : Int) 16 = (q : Int) := by rw [Int.tmod_eq_emod_of_nonneg (by omega)]; omega
      have hp16 : p < 16 := by omega
      have hq16 : q < 16 := by omega
      have HP := K.mk hp
      have HQ := K.mk hq
      clear hp hq hz32
      go_wp2_with fail
      all_goals
        first
        | (go_roundg (s.size - (k + 1))
           case measure => omega
           case rel => exact ⟨k + 1, _, by omega, Nat.le_refl _, by go_num, rfl, ⟨esc_step s k hlt t _ HD.o (by first | exact esc34 _ ‹_› | exact esc92 _ ‹_› | exact esc8 _ ‹_› | exact esc9 _ ‹_› | exact esc10 _ ‹_› | exact esc12 _ ‹_› | exact esc13 _ ‹_›)⟩, esc_sz _ _ _ ht (by decide), HB⟩)
        | (go_roundg (s.size - (k + 1))
           case measure => omega
           case rel => exact ⟨k + 1, _, by omega, Nat.le_refl _, by go_num, rfl, ⟨esc_step s k hlt t _ HD.o ((congrArg bs (escS_self (s[k]'hlt) ‹_› ‹_› ‹_›)).trans (ext_one s k hlt).symm)⟩, esc_sz _ _ _ ht (by rw [ext_one s k hlt, bs_size]; simp), HB⟩)
        | skip
      refine wp_region_below (by kernel_rfl) (by kernel_rfl) ?_
      repeat (go_big_quiet_step (fail))
      refine wpQuiet_nil ?_
      intro _ hw'
      obtain ⟨⟨wq, hbq⟩, hw''⟩ := hw'
      subst hw''
      go_wp2_with fail
      go_roundg (s.size - (k + 1))
      case measure => omega
      case rel => exact ⟨k + 1, _, by omega, Nat.le_refl _, by go_num, rfl, ⟨esc_step s k hlt t _ HD.o (esc_low_bs (s[k]'hlt) p q HP.o HQ.o hp16 hq16 ‹_› ‹_› ‹_› ‹_› ‹_› ‹_›)⟩, esc_sz _ _ _ ht (low_size p q hp16 hq16), ⟨below2 HB.o hbq⟩⟩
    · have hge' : ¬ (k : Int) < (s.size : Int) := by omega
      have hkk : s.size = k := by omega
      subst hkk
      have hq : t ++ ⟨#[34]⟩ = bs (quotedS s) := by
        have e : (⟨#[34]⟩ : ByteArray) = bs [34] := rfl
        rw [HD.o, e, bs_append, show s.size = s.data.toList.length from rfl, List.take_length]; rfl
      have HQ := K.mk hq
      clear hq
      go_wp2_with fail
      go_ret
      exact ⟨by rw [← HQ.o]; rfl, HB.o⟩
end Go.Proofs.YtjiokidindnolaaDoor
