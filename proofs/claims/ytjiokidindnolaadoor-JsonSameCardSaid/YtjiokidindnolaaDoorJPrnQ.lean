/- Walks: quoted of the printer. -/
import Derived.Test.YtjiokidindnolaaDoorJPrn
import Derived.Test.YtjiokidindnolaaDoorJShowQ
import Derived.Test.YtjiokidindnolaaDoorShelf


import Derived.WalkKit
import Derived.Deep.QuietTactic
import Derived.BigQuiet
import Derived.Outline
import Derived.Deep.DeepMust
import Derived.Deep.CutBlock
import Derived.Deep.DeepCutAuto
import Derived.Deep.RegionWith
import Derived.WalkSpells
import Derived.WalkLawsBesides
import Derived.Test.YtjiokidindnolaaDoorMu
import Derived.Test.YtjiokidindnolaaDoorProg
set_option linter.unusedVariables false
set_option linter.unusedSimpArgs false
namespace Go.Proofs.YtjiokidindnolaaDoor
open Go.RowKit Go.Mu

theorem WriteByte_n (n : Int) (c : UInt8) (hn : (c.toNat : Int) = n) (B b : Nat) (l : List UInt8) (w : World) (h : PB B b l w) (hlen : l.length ≤ 100000000000000) (hBw : B ≤ w.heap.size) :
    Calls Tryd.prog 35 #[.pointer (some ⟨b, 0, none⟩), .int .u8 n] w fun e w' => e = .returned .nilIface ∧ PB B b (l ++ [c]) w' ∧ Below B w w' ∧ PK b w w' := by
  subst hn; exact WriteByte_p B b l c w h (by omega) hBw
theorem WriteString_n (u : ByteArray) (t : List UInt8) (hu : u = bs t) (B b : Nat) (l : List UInt8) (w : World) (h : PB B b l w) (hlen : l.length + t.length ≤ 100000000000000) (hBw : B ≤ w.heap.size) :
    Calls Tryd.prog 32 #[.pointer (some ⟨b, 0, none⟩), .string u] w fun e w' => e = .returned (.tuple #[.int .i64 (t.length : Int), .nilIface]) ∧ PB B b (l ++ t) w' ∧ Below B w w' ∧ PK b w w' := by
  subst hu; exact WriteString_p B b l t w h (by omega) hBw
theorem BelowB.size {B : Nat} {w w' : World} (h : Below B w w') (hB : B ≤ w.heap.size) : B ≤ w'.heap.size := Nat.le_trans hB h.size

/-- A byte's kind: what it is written as hangs on it. -/
theorem byte_kinds (c : UInt8) : ((c.toNat : Int) = 34 ∨ (c.toNat : Int) = 92) ∨ ((c.toNat : Int) = 8 ∨ (c.toNat : Int) = 9 ∨ (c.toNat : Int) = 10 ∨ (c.toNat : Int) = 12 ∨ (c.toNat : Int) = 13) ∨
    ((((c.toNat : Int) == 34) = false ∧ ((c.toNat : Int) == 92) = false ∧ Lib.indexByte [8, 9, 10, 12, 13] c = -1) ∧ ((((c.toNat : Int) == 8) = false ∧ ((c.toNat : Int) == 9) = false ∧ ((c.toNat : Int) == 10) = false ∧ ((c.toNat : Int) == 12) = false ∧ ((c.toNat : Int) == 13) = false ∧ (c.toNat : Int) < 32) ∨ 32 ≤ (c.toNat : Int))) := by
  have hd : ∀ i : Fin 256, (((UInt8.ofNat i.val).toNat : Int) = 34 ∨ ((UInt8.ofNat i.val).toNat : Int) = 92) ∨ (((UInt8.ofNat i.val).toNat : Int) = 8 ∨ ((UInt8.ofNat i.val).toNat : Int) = 9 ∨ ((UInt8.ofNat i.val).toNat : Int) = 10 ∨ ((UInt8.ofNat i.val).toNat : Int) = 12 ∨ ((UInt8.ofNat i.val).toNat : Int) = 13) ∨
    (((((UInt8.ofNat i.val).toNat : Int) == 34) = false ∧ (((UInt8.ofNat i.val).toNat : Int) == 92) = false ∧ Lib.indexByte [8, 9, 10, 12, 13] (UInt8.ofNat i.val) = -1) ∧ (((((UInt8.ofNat i.val).toNat : Int) == 8) = false ∧ (((UInt8.ofNat i.val).toNat : Int) == 9) = false ∧ (((UInt8.ofNat i.val).toNat : Int) == 10) = false ∧ (((UInt8.ofNat i.val).toNat : Int) == 12) = false ∧ (((UInt8.ofNat i.val).toNat : Int) == 13) = false ∧ ((UInt8.ofNat i.val).toNat : Int) < 32) ∨ 32 ≤ ((UInt8.ofNat i.val).toNat : Int))) := by decide +kernel
  have h := hd ⟨c.toNat, c.toNat_lt⟩
  simp only [UInt8.ofNat_toNat] at h
  exact h

theorem PB.drew {B b : Nat} {l : List UInt8} {w : World} (h : PB B b l w) : PB B b l w.drew := h.elim (fun x => .inl x.drew) (fun x => .inr x.drew)
theorem idx_n (n v : Int) (h : Lib.indexByte [8, 9, 10, 12, 13] n.toNat.toUInt8 = v) (w : World) :
    Calls Tryd.prog 43 #[.string ⟨#[8, 9, 10, 12, 13]⟩, .int .u8 n] w fun e w' => e = .returned (.int .i64 v) ∧ w' = w := by
  subst h; exact Tryd.strings_IndexByte ⟨#[8, 9, 10, 12, 13]⟩ n w
theorem esc_app (s : ByteArray) (k : Nat) (hlt : k < s.size) (l : List UInt8) : l ++ 34 :: escL (s.data.toList.take k) ++ escS (s[k]'hlt) = l ++ 34 :: escL (s.data.toList.take (k + 1)) := by
  have hget : s.data.toList[k]? = some (s[k]'hlt) := by
    rw [List.getElem?_eq_getElem (by show k < s.size; exact hlt)]; rfl
  rw [escL_snoc _ k _ hget]; simp
theorem escS_n (c : UInt8) (n : Nat) (hn : (c.toNat : Int) = (n : Int)) (hn2 : n < 256) : escS c = escS (UInt8.ofNat n) := by
  rw [byte_eq c n hn2 (by simpa using hn)]
theorem lit_two (p : Nat) (hp : p < 2) : (⟨#[48, 49]⟩ : ByteArray).extract p (p + 1) = bs [hexS p] := by
  have h : ∀ i : Fin 2, (⟨#[48, 49]⟩ : ByteArray).extract i.val (i.val + 1) = bs [hexS i.val] := by decide
  exact h ⟨p, hp⟩


set_option maxRecDepth 100000 in
set_option maxHeartbeats 8000000 in
theorem quoted_calls (s : ByteArray) (hs : s.size ≤ 1000) (B b : Nat) (l : List UInt8) (w : World) (h : PB B b l w) (hl : l.length ≤ 90000000000000) (hBw : B ≤ w.heap.size) :
    Calls Tryd.prog 34 #[.pointer (some ⟨b, 0, none⟩), .string s] w fun e w' => e = .returned (.tuple #[]) ∧ PB B b (l ++ quotedS s) w' ∧ Below B w w' ∧ PK b w w' := by
  have HP := K.mk h
  clear h
  go_enter Tryd.func34, Tryd.ntmps34
  go_wp2_with (go_at_call 35; go_must (refine (WriteByte_n 34 34 rfl B b l _ HP.o (by omega) hBw).mono ?_); rintro e w0 ⟨rfl, hp0, hb0, hk0⟩; have HP0 := K.mk hp0; have HB0 := K.mk hb0; have HK0 := K.mk hk0; clear hp0 hb0 hk0)
  go_loopg [13] s.size (fun g s13 wr => ∃ k : Nat, k ≤ s.size ∧ s.size - k ≤ g ∧ s13 = .int .i64 k ∧ K (PB B b (l ++ 34 :: escL (s.data.toList.take k)) wr) ∧ K (Below B w wr) ∧ K (PK b w wr))
  case atStart => exact ⟨0, Nat.zero_le _, Nat.le_refl _, rfl, ⟨by have := HP0.o; simpa [escL] using this⟩, HB0, HK0⟩
  case round =>
    clear HP HP0 HB0 HK0
    obtain ⟨k, hk', hg, rfl, HP, HB, HK⟩ := hrel
    have hBr := BelowB.size HB.o hBw
    have hL : (l ++ 34 :: escL (s.data.toList.take k)).length ≤ 90000000010000 := by
      have h1 := escL_len (s.data.toList.take k)
      have h2 : (s.data.toList.take k).length ≤ k := by simp; omega
      simp only [List.length_append, List.length_cons]; omega
    rcases Nat.lt_or_ge k s.size with hlt | hge
    · have hlt' : (k : Int) < (s.size : Int) := by omega
      rcases byte_kinds (s[k]'hlt) with hz | hz | ⟨⟨h34, h92, hix⟩, hz⟩
      · rcases hz with hz | hz
        · have hcv : ∀ W, (convert 5 9 (.int .u8 34)).run Tryd.prog W = .ok (.string ⟨#[34]⟩) W := fun W => by kernel_rfl
          have HE := K.mk (escS_n _ 34 hz (by decide))
          go_wp2_with (first | (go_at_call 43; go_must (refine (idx_n 34 (-1) (by decide) _).mono ?_); rintro e w9 ⟨rfl, rfl⟩) | (go_at_call 32; go_must (refine (WriteString_n _ [92, 34] (by decide) B b _ _ HP.o (by simp only [List.length_cons, List.length_nil]; omega) hBr).mono ?_); rintro e w0 ⟨rfl, hp0, hb0, hk0⟩; have HP0 := K.mk hp0; have HB0 := K.mk hb0; have HK0 := K.mk hk0; clear hp0 hb0 hk0))
          rw [show [92, 34] = escS (s[k]'hlt) by rw [HE.o]; decide] at HP0
          go_roundg (s.size - (k + 1))
          case measure => omega
          case rel => exact ⟨k + 1, by omega, Nat.le_refl _, by go_num, ⟨by rw [← esc_app s k hlt]; exact HP0.o⟩, ⟨HB.o.trans HB0.o⟩, ⟨HK.o.trans HK0.o⟩⟩
        · have hcv : ∀ W, (convert 5 9 (.int .u8 92)).run Tryd.prog W = .ok (.string ⟨#[92]⟩) W := fun W => by kernel_rfl
          have HE := K.mk (escS_n _ 92 hz (by decide))
          go_wp2_with (first | (go_at_call 43; go_must (refine (idx_n 92 (-1) (by decide) _).mono ?_); rintro e w9 ⟨rfl, rfl⟩) | (go_at_call 32; go_must (refine (WriteString_n _ [92, 92] (by decide) B b _ _ HP.o (by simp only [List.length_cons, List.length_nil]; omega) hBr).mono ?_); rintro e w0 ⟨rfl, hp0, hb0, hk0⟩; have HP0 := K.mk hp0; have HB0 := K.mk hb0; have HK0 := K.mk hk0; clear hp0 hb0 hk0))
          rw [show [92, 92] = escS (s[k]'hlt) by rw [HE.o]; decide] at HP0
          go_roundg (s.size - (k + 1))
          case measure => omega
          case rel => exact ⟨k + 1, by omega, Nat.le_refl _, by go_num, ⟨by rw [← esc_app s k hlt]; exact HP0.o⟩, ⟨HB.o.trans HB0.o⟩, ⟨HK.o.trans HK0.o⟩⟩
      · rcases hz with hz | hz | hz | hz | hz
        · have HE := K.mk (escS_n _ 8 hz (by decide))
          go_wp2_with (go_at_call 43; go_must (refine (idx_n 8 0 (by decide) _).mono ?_); rintro e w9 ⟨rfl, rfl⟩)
          go_region_with (first | (go_at_call 32; refine (WriteString_n _ [92, 98] (by decide) B b _ _ HP.o.drew (by simp only [List.length_cons, List.length_nil]; omega) hBr).mono ?_; rintro e w0 ⟨rfl, hp0, hb0, hk0⟩; have HP0 := K.mk hp0; have HB0 := K.mk hb0; have HK0 := K.mk hk0; clear hp0 hb0 hk0))
          go_wp2_with fail
          rw [show [92, 98] = escS (s[k]'hlt) by rw [HE.o]; decide] at HP0
          go_roundg (s.size - (k + 1))
          case measure => omega
          case rel => exact ⟨k + 1, by omega, Nat.le_refl _, by go_num, ⟨by rw [← esc_app s k hlt]; exact HP0.o⟩, ⟨HB.o.drew.trans HB0.o⟩, ⟨HK.o.drew.trans HK0.o⟩⟩
        · have HE := K.mk (escS_n _ 9 hz (by decide))
          go_wp2_with (go_at_call 43; go_must (refine (idx_n 9 1 (by decide) _).mono ?_); rintro e w9 ⟨rfl, rfl⟩)
          go_region_with (first | (go_at_call 32; refine (WriteString_n _ [92, 116] (by decide) B b _ _ HP.o.drew (by simp only [List.length_cons, List.length_nil]; omega) hBr).mono ?_; rintro e w0 ⟨rfl, hp0, hb0, hk0⟩; have HP0 := K.mk hp0; have HB0 := K.mk hb0; have HK0 := K.mk hk0; clear hp0 hb0 hk0))
          go_wp2_with fail
          rw [show [92, 116] = escS (s[k]'hlt) by rw [HE.o]; decide] at HP0
          go_roundg (s.size - (k + 1))
          case measure => omega
          case rel => exact ⟨k + 1, by omega, Nat.le_refl _, by go_num, ⟨by rw [← esc_app s k hlt]; exact HP0.o⟩, ⟨HB.o.drew.trans HB0.o⟩, ⟨HK.o.drew.trans HK0.o⟩⟩
        · have HE := K.mk (escS_n _ 10 hz (by decide))
          go_wp2_with (go_at_call 43; go_must (refine (idx_n 10 2 (by decide) _).mono ?_); rintro e w9 ⟨rfl, rfl⟩)
          go_region_with (first | (go_at_call 32; refine (WriteString_n _ [92, 110] (by decide) B b _ _ HP.o.drew (by simp only [List.length_cons, List.length_nil]; omega) hBr).mono ?_; rintro e w0 ⟨rfl, hp0, hb0, hk0⟩; have HP0 := K.mk hp0; have HB0 := K.mk hb0; have HK0 := K.mk hk0; clear hp0 hb0 hk0))
          go_wp2_with fail
          rw [show [92, 110] = escS (s[k]'hlt) by rw [HE.o]; decide] at HP0
          go_roundg (s.size - (k + 1))
          case measure => omega
          case rel => exact ⟨k + 1, by omega, Nat.le_refl _, by go_num, ⟨by rw [← esc_app s k hlt]; exact HP0.o⟩, ⟨HB.o.drew.trans HB0.o⟩, ⟨HK.o.drew.trans HK0.o⟩⟩
        · have HE := K.mk (escS_n _ 12 hz (by decide))
          go_wp2_with (go_at_call 43; go_must (refine (idx_n 12 3 (by decide) _).mono ?_); rintro e w9 ⟨rfl, rfl⟩)
          go_region_with (first | (go_at_call 32; refine (WriteString_n _ [92, 102] (by decide) B b _ _ HP.o.drew (by simp only [List.length_cons, List.length_nil]; omega) hBr).mono ?_; rintro e w0 ⟨rfl, hp0, hb0, hk0⟩; have HP0 := K.mk hp0; have HB0 := K.mk hb0; have HK0 := K.mk hk0; clear hp0 hb0 hk0))
          go_wp2_with fail
          rw [show [92, 102] = escS (s[k]'hlt) by rw [HE.o]; decide] at HP0
          go_roundg (s.size - (k + 1))
          case measure => omega
          case rel => exact ⟨k + 1, by omega, Nat.le_refl _, by go_num, ⟨by rw [← esc_app s k hlt]; exact HP0.o⟩, ⟨HB.o.drew.trans HB0.o⟩, ⟨HK.o.drew.trans HK0.o⟩⟩
        · have HE := K.mk (escS_n _ 13 hz (by decide))
          go_wp2_with (go_at_call 43; go_must (refine (idx_n 13 4 (by decide) _).mono ?_); rintro e w9 ⟨rfl, rfl⟩)
          go_region_with (first | (go_at_call 32; refine (WriteString_n _ [92, 114] (by decide) B b _ _ HP.o.drew (by simp only [List.length_cons, List.length_nil]; omega) hBr).mono ?_; rintro e w0 ⟨rfl, hp0, hb0, hk0⟩; have HP0 := K.mk hp0; have HB0 := K.mk hb0; have HK0 := K.mk hk0; clear hp0 hb0 hk0))
          go_wp2_with fail
          rw [show [92, 114] = escS (s[k]'hlt) by rw [HE.o]; decide] at HP0
          go_roundg (s.size - (k + 1))
          case measure => omega
          case rel => exact ⟨k + 1, by omega, Nat.le_refl _, by go_num, ⟨by rw [← esc_app s k hlt]; exact HP0.o⟩, ⟨HB.o.drew.trans HB0.o⟩, ⟨HK.o.drew.trans HK0.o⟩⟩
      · rcases hz with ⟨h8, h9, h10, h12, h13, hz⟩ | hz
        · obtain ⟨p, hp⟩ : ∃ p, p = (s[k]'hlt).toNat / 16 := ⟨_, rfl⟩
          obtain ⟨q, hq⟩ : ∃ q, q = (s[k]'hlt).toNat % 16 := ⟨_, rfl⟩
          have e1 : Int.tdiv ((s[k]'hlt).toNat : Int) 16 = (p : Int) := by rw [Int.tdiv_eq_ediv_of_nonneg (by omega)]; omega
          have e2 : Int.tmod ((s[k]'hlt).toNat : Int) 16 = (q : Int) := by rw [Int.tmod_eq_emod_of_nonneg (by omega)]; omega
          have hp2 : p < 2 := by omega
          have hq16 : q < 16 := by omega
          have HE := K.mk (escS_low _ h8 h9 h10 h12 h13 hz)
          have HU := K.mk (show (⟨#[92, 117, 48, 48]⟩ : ByteArray) ++ (⟨#[48, 49]⟩ : ByteArray).extract p (p + 1) ++ (⟨#[48, 49, 50, 51, 52, 53, 54, 55, 56, 57, 97, 98, 99, 100, 101, 102]⟩ : ByteArray).extract q (q + 1) = bs (escS (s[k]'hlt)) by
            rw [HE.o, lit_two p hp2, lit_hex q hq16, show (⟨#[92, 117, 48, 48]⟩ : ByteArray) = bs [92, 117, 48, 48] from rfl, bs_append, bs_append, hp, hq]; rfl)
          have hel := escS_len (s[k]'hlt)
          have hs1 : ((⟨#[48, 49]⟩ : ByteArray).extract p (p + 1)).size = 1 := by rw [lit_two p hp2, bs_size]; rfl
          have hs2 := lit_hex_size q hq16
          have i1 : (0 : Int) ≤ (p : Int) := by omega
          have i2 : (p : Int) ≤ (p : Int) + 1 := by omega
          have i3 : (p : Int) + 1 ≤ 2 := by omega
          have i4 : IntKind.u8.wrap ((p : Int) + 1) = (p : Int) + 1 := by rw [show IntKind.u8.wrap ((p : Int) + 1) = ((p : Int) + 1) % 256 from rfl]; omega
          have i5 : (0 : Int) ≤ (q : Int) := by omega
          have i9 : IntKind.u8.wrap (p : Int) = (p : Int) := by rw [show IntKind.u8.wrap (p : Int) = (p : Int) % 256 from rfl]; omega
          have i10 : IntKind.u8.wrap (q : Int) = (q : Int) := by rw [show IntKind.u8.wrap (q : Int) = (q : Int) % 256 from rfl]; omega
          have j3 : (p : Int) ≤ 1 := by omega
          have j4 : p ≤ 1 := by omega
          have j5 : (q : Int) ≤ 15 := by omega
          have j6 : q ≤ 15 := by omega
          have j1 : (0 : Int) ≤ (p : Int) + 1 := by omega
          have j2 : (0 : Int) ≤ (q : Int) + 1 := by omega
          have i6 : (q : Int) ≤ (q : Int) + 1 := by omega
          have i7 : (q : Int) + 1 ≤ 16 := by omega
          have i8 : IntKind.u8.wrap ((q : Int) + 1) = (q : Int) + 1 := by rw [show IntKind.u8.wrap ((q : Int) + 1) = ((q : Int) + 1) % 256 from rfl]; omega
          clear hp hq
          go_wp2_with (go_at_call 43; go_must (refine (idx_n _ (-1) (by simpa using hix) _).mono ?_); rintro e w9 ⟨rfl, rfl⟩)
          go_region_with (first | (go_at_call 32; refine (WriteString_n _ _ HU.o B b _ _ HP.o.drew (by omega) hBr).mono ?_; rintro e w0 ⟨rfl, hp0, hb0, hk0⟩; have HP0 := K.mk hp0; have HB0 := K.mk hb0; have HK0 := K.mk hk0; clear hp0 hb0 hk0))
          go_wp2_with fail
          go_roundg (s.size - (k + 1))
          case measure => omega
          case rel => exact ⟨k + 1, by omega, Nat.le_refl _, by go_num, ⟨by rw [← esc_app s k hlt]; exact HP0.o⟩, ⟨HB.o.drew.trans HB0.o⟩, ⟨HK.o.drew.trans HK0.o⟩⟩
        · go_wp2_with (first | (go_at_call 43; go_must (refine (idx_n _ (-1) (by simpa using hix) _).mono ?_); rintro e w9 ⟨rfl, rfl⟩) | (go_at_call 35; go_must (refine (WriteByte_n _ (s[k]'hlt) rfl B b _ _ HP.o (by omega) hBr).mono ?_); rintro e w0 ⟨rfl, hp0, hb0, hk0⟩; have HP0 := K.mk hp0; have HB0 := K.mk hb0; have HK0 := K.mk hk0; clear hp0 hb0 hk0))
          rw [show [s[k]'hlt] = escS (s[k]'hlt) from (escS_self _ h34 h92 hz).symm] at HP0
          go_roundg (s.size - (k + 1))
          case measure => omega
          case rel => exact ⟨k + 1, by omega, Nat.le_refl _, by go_num, ⟨by rw [← esc_app s k hlt]; exact HP0.o⟩, ⟨HB.o.trans HB0.o⟩, ⟨HK.o.trans HK0.o⟩⟩
    · have hge' : ¬ (k : Int) < (s.size : Int) := by omega
      have hkk : s.size = k := by omega
      go_wp2_with (go_at_call 35; go_must (refine (WriteByte_n 34 34 rfl B b _ _ HP.o (by omega) hBr).mono ?_); rintro e w0 ⟨rfl, hp0, hb0, hk0⟩; have HP0 := K.mk hp0; have HB0 := K.mk hb0; have HK0 := K.mk hk0; clear hp0 hb0 hk0)
      go_end0
      refine ⟨rfl, ?_, HB.o.trans HB0.o, HK.o.trans HK0.o⟩
      have h1 := HP0.o
      rw [show k = s.data.toList.length from hkk.symm, List.take_length] at h1
      simpa [quotedS] using h1
end Go.Proofs.YtjiokidindnolaaDoor
