/- Walks: broken, Valid and text of the reference. -/
import Derived.Test.YtgcbkecpplhknaaDoorJValid
import Derived.Lib.OthersKept
import Derived.WalkSmall


import Derived.WalkKit
import Derived.Deep.QuietTactic
import Derived.BigQuiet
import Derived.Outline
import Derived.Deep.DeepMust
import Derived.Deep.CutBlock
import Derived.Deep.DeepCutAuto
import Derived.Deep.RegionWith
import Derived.WalkSpells
import Derived.WalkLawsBesides
import Derived.Test.YtgcbkecpplhknaaDoorMu
import Derived.Test.YtgcbkecpplhknaaDoorProg
set_option linter.unusedVariables false
set_option linter.unusedSimpArgs false
namespace Go.Proofs.YtgcbkecpplhknaaDoor
open Go.RowKit Go.Mu

theorem lit3 : (⟨#[239, 191, 189]⟩ : ByteArray).toList = [239, 191, 189] := by rw [ByteArray.toList_eq]
theorem broken_far (s : ByteArray) (p : Nat) (hp : p < s.size) (HD : K (Lib.validD (s.data.toList.drop p) = Lib.validD s.data.toList)) (h : (((Utf8.decode s p).1 : Nat) : Int) = 65533) (h2 : (s.size : Int) < p + 3) :
    Lib.validD s.data.toList = false := by
  rw [← HD.o]; apply validD_bad s p hp
  have h1 : (Utf8.decode s p).1 = 65533 := by omega
  have h3 : s.size < p + 3 := by omega
  simp [brokenAt, h1, h3]
theorem broken_other (s : ByteArray) (p : Nat) (hp : p < s.size) (HD : K (Lib.validD (s.data.toList.drop p) = Lib.validD s.data.toList)) (h : (((Utf8.decode s p).1 : Nat) : Int) = 65533) (h2 : (!(s.extract p (p + 3)).toList == [239, 191, 189]) = true) :
    Lib.validD s.data.toList = false := by
  rw [← HD.o]; apply validD_bad s p hp
  have h1 : (Utf8.decode s p).1 = 65533 := by omega
  unfold brokenAt; rw [lit3, h2, h1]; simp
theorem broken_not1 (s : ByteArray) (p : Nat) (hp : p < s.size) (HD : K (Lib.validD (s.data.toList.drop p) = Lib.validD s.data.toList)) (h : (p : Int) + 3 ≤ s.size) (h2 : (!(s.extract p (p + 3)).toList == [239, 191, 189]) = false) :
    K (Lib.validD (s.data.toList.drop (p + (Utf8.decode s p).2)) = Lib.validD s.data.toList) := by
  refine ⟨?_⟩
  rw [← HD.o]; apply validD_good s p hp
  have h3 : ¬ s.size < p + 3 := by omega
  unfold brokenAt; rw [lit3, h2]; simp [h3]
theorem broken_not2 (s : ByteArray) (p : Nat) (hp : p < s.size) (HD : K (Lib.validD (s.data.toList.drop p) = Lib.validD s.data.toList)) (h : ¬ (((Utf8.decode s p).1 : Nat) : Int) = 65533) :
    K (Lib.validD (s.data.toList.drop (p + (Utf8.decode s p).2)) = Lib.validD s.data.toList) := by
  refine ⟨?_⟩
  rw [← HD.o]; apply validD_good s p hp
  have h1 : ¬ (Utf8.decode s p).1 = 65533 := by omega
  simp [brokenAt, h1]

set_option maxHeartbeats 4000000 in
theorem broken_calls (s : ByteArray) (hs : s.size ≤ strMax) (w : World) :
    Calls Tryd.prog 102 #[.string s] w fun e w' => e = .returned (.bool (!Lib.validD s.data.toList)) ∧ Below w.heap.size w w' := by
  have hs' : s.size ≤ 9223372036854775800 := Nat.le_trans hs (by decide)
  clear hs
  go_enter Tryd.func102, Tryd.ntmps102
  go_wp2_with fail
  go_loopw [2] (fun s2 wr => ∃ p : Nat, s2 = .bool false ∧ K (Lib.validD (s.data.toList.drop p) = Lib.validD s.data.toList) ∧ K (Below w.heap.size w wr) ∧ wr.heap[w.heap.size]? = some (.stringIter s p)) (fun _ wr => s.size - wr.iterPos w.heap.size)
  case atStart => exact ⟨0, rfl, ⟨by simp⟩, ⟨below_a1 _ _⟩, World.iter_heap w s 0⟩
  case round =>
    obtain ⟨p, rfl, HD, HB, hit⟩ := hrel
    by_cases hp : p < s.size
    · have hnx := fun ty => Lib.run_next_any_at (P := Tryd.prog) wr w.heap.size s p ty hit hp
      have hit2 := Lib.iterAt_heap wr w.heap.size s p (p + (Utf8.decode s p).2) hit
      have hwd := Lib.width_pos s p
      have hms : s.size - (wr.iterAt w.heap.size s (p + (Utf8.decode s p).2)).iterPos w.heap.size < s.size - wr.iterPos w.heap.size := by
        simp only [World.iterPos, hit2, hit]; omega
      have HM := K.mk hms
      have HI2 := K.mk hit2
      have HB2 := K.mk (Lib.below_iterAt HB.o (Nat.le_refl _) s (p + (Utf8.decode s p).2) (k := w.heap.size))
      clear hms hit2 hwd
      go_wp2_with fail
      all_goals
        first
        | exact ⟨⟨_, rfl, broken_not1 s p hp HD ‹_› (by rename_i h; exact h.2), HB2, HI2.o⟩, HM.o⟩
        | exact ⟨⟨_, rfl, broken_not2 s p hp HD ‹_›, HB2, HI2.o⟩, HM.o⟩
        | (go_ret; exact ⟨by rw [broken_far s p hp HD ‹_› ‹_›]; rfl, HB2.o⟩)
        | (go_ret; exact ⟨by rw [broken_other s p hp HD ‹_› (by rename_i h; rcases h with h | h <;> first | omega | exact h)]; rfl, HB2.o⟩)
        | skip
    · have hnx := fun ty => Lib.run_next_end_at (P := Tryd.prog) wr w.heap.size s p ty hit hp
      have hv : Lib.validD s.data.toList = true := by rw [← HD.o, validD_end s p hp]
      have HV := K.mk hv
      clear hv
      go_wp2_with fail
      go_ret
      exact ⟨ret_bool (by rw [HV.o]; rfl), HB.o⟩

theorem valid_conv (P : Program) (w : World) (s : ByteArray) (ts tr te : TypeId) (hs : s.size ≤ 70368744177664) (h1 : P.underlying ts = some .string) (h2 : P.underlying tr = some (.slice te)) (h3 : P.underlying te = some (.int .i32)) :
    ∃ c W1, (convert ts tr (.string s)).run P w = .ok (.slice (some ⟨w.heap.size, 0, none⟩) (runesI s s.size 0).length c) W1 ∧
      (convert tr ts (.slice (some ⟨w.heap.size, 0, none⟩) (runesI s s.size 0).length c)).run P W1 = .ok (.string (runesBytes (runesI s s.size 0))) W1 ∧ Below w.heap.size w W1 := by
  have hsz : (Conv.runesFrom s s.size 0 #[]).size = (runesI s s.size 0).length := by rw [runesFrom_I]; simp
  have hlen := runesI_length s s.size 0
  have hc := run_runes_of_string (P := P) w ts tr te s h1 h2 h3 (by rw [hsz]; omega)
  rw [hsz] at hc
  refine ⟨_, _, hc, ?_, ?_⟩
  · have hb := run_convert_runes (P := P) (w.drew.alloc (.cells (Conv.runesFrom s s.size 0 #[] ++ Array.replicate (grownCap w (runesI s s.size 0).length 0 te - (runesI s s.size 0).length) (.int .i32 0)) te)) tr ts te ⟨w.heap.size, 0, none⟩ (runesI s s.size 0).length
      (grownCap w (runesI s s.size 0).length 0 te) (runesI s s.size 0) (Nat.le_refl _) h2 h3 h1 (fun j hj => ?_)
    · rw [List.take_length] at hb; exact hb
    · have hv : (Conv.runesFrom s s.size 0 #[] ++ Array.replicate (grownCap w (runesI s s.size 0).length 0 te - (runesI s s.size 0).length) (Value.int .i32 0)).toList[j]? = some (.int .i32 ((runesI s s.size 0).getD j 0)) := by
        rw [runesFrom_I]
        simp [List.getElem?_append_left, hj, List.getD_eq_getElem?_getD]
      have hb := (Blk.new w.drew te _ : Blk (w.drew.alloc (.cells (Conv.runesFrom s s.size 0 #[] ++ Array.replicate (grownCap w (runesI s s.size 0).length 0 te - (runesI s s.size 0).length) (Value.int .i32 0)) te)) w.heap.size te (Conv.runesFrom s s.size 0 #[] ++ Array.replicate (grownCap w (runesI s s.size 0).length 0 te - (runesI s s.size 0).length) (Value.int .i32 0)).toList)
      have hcl := hb.cell j hv
      have e0 : (⟨w.heap.size, 0, none⟩ : Addr).add j = ⟨w.heap.size, j, none⟩ := by unfold Addr.add; split <;> simp_all
      rw [e0]; exact hcl
  · exact ((Below.refl _ _).drew).alloc (Nat.le_refl _) _

theorem Valid_calls (s : ByteArray) (hs : s.size ≤ 1000) (w : World) :
    Calls Tryd.prog 68 #[.string s] w fun e w' => e = .returned (.bool (Lib.validD s.data.toList)) ∧ Below w.heap.size w w' := by
  obtain ⟨c, W1, h1, h2, hb⟩ := valid_conv Tryd.prog w s 9 140 21 (by omega) (by kernel_rfl) (by kernel_rfl) (by kernel_rfl)
  have hbr := broken_calls s (Nat.le_trans hs (by decide)) W1
  have HC := K.mk hbr
  have HB := K.mk hb
  have hv : (Lib.validD s.data.toList = true ∧ ((runesBytes (runesI s s.size 0)).toList == s.toList) = true) ∨ (Lib.validD s.data.toList = false ∧ ((runesBytes (runesI s s.size 0)).toList == s.toList) = true) ∨ (Lib.validD s.data.toList = false ∧ ((runesBytes (runesI s s.size 0)).toList == s.toList) = false) := by
    cases hv : Lib.validD s.data.toList with
    | true => left; exact ⟨rfl, by rw [back_of_valid s hv]; simp⟩
    | false => right; cases (runesBytes (runesI s s.size 0)).toList == s.toList <;> simp
  clear hbr hb
  generalize runesBytes (runesI s s.size 0) = rb at *
  generalize (runesI s s.size 0).length = n at *
  rcases hv with ⟨hv, ht⟩ | ⟨hv, ht⟩ | ⟨hv, ht⟩
  all_goals
    rw [hv] at HC
    have HV := K.mk hv
    clear hv
    go_enter Tryd.func68, Tryd.ntmps68
    go_wp2_with (go_at_call 102; go_must (refine HC.o.mono ?_); rintro e w' ⟨rfl, hb'⟩)
    go_ret
    first | exact ⟨by rw [HV.o]; rfl, below2 HB.o hb'⟩ | exact ⟨by rw [HV.o]; rfl, HB.o⟩

theorem ref_text_calls (s : ByteArray) (w : World) :
    Calls Tryd.prog 118 #[.string s] w fun e w' => e = .returned (.bool (textS s)) ∧ Below w.heap.size w w' := by
  by_cases h : s.size ≤ 60
  · have hz : (s.size : Int) ≤ 60 := by omega
    have HC := K.mk (Valid_calls s (by omega) w)
    have hs : textS s = Lib.validD s.data.toList := by simp [textS, h]
    have HS := K.mk hs
    clear hs
    go_enter Tryd.func118, Tryd.ntmps118
    go_wp2_with (go_at_call 68; go_must (refine HC.o.mono ?_); rintro e w' ⟨rfl, hb'⟩)
    go_ret
    exact ⟨by rw [HS.o]; rfl, hb'⟩
  · have hz : ¬ (s.size : Int) ≤ 60 := by omega
    have hs : K (textS s = false) := ⟨by simp [textS, h]⟩
    go_enter Tryd.func118, Tryd.ntmps118
    go_wp2_with fail
    go_ret
    exact ⟨by rw [hs.o]; rfl, Below.refl _ _⟩

end Go.Proofs.YtgcbkecpplhknaaDoor
