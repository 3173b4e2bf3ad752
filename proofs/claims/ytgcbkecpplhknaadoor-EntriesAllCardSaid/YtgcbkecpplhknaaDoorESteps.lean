/- Walks: a path's steps, of the program and of the reference. -/
import Derived.Test.YtgcbkecpplhknaaDoorEPlain
import Derived.Test.YtgcbkecpplhknaaDoorOwn
import Derived.Test.YtgcbkecpplhknaaDoorJForm
import Derived.Test.YtgcbkecpplhknaaDoorJRefV


import Derived.WalkKit
import Derived.Deep.QuietTactic
import Derived.BigQuiet
import Derived.Outline
import Derived.Deep.DeepMust
import Derived.Deep.CutBlock
import Derived.Deep.DeepCutAuto
import Derived.Deep.RegionWith
import Derived.WalkSpells
import Derived.WalkLawsBesides
import Derived.Test.YtgcbkecpplhknaaDoorMu
import Derived.Test.YtgcbkecpplhknaaDoorProg
set_option linter.unusedVariables false
set_option linter.unusedSimpArgs false
namespace Go.Proofs.YtgcbkecpplhknaaDoor
open Go.RowKit Go.Mu

theorem str_info : ∃ i, Tryd.prog.info? 9 = some i ∧ i.zero = some (.string ⟨#[]⟩) ∧ i.size = 1 ∧ i.bytes = 16 := by
  have h : (Tryd.prog.info? 9).map (fun i => (i.zero, i.size, i.bytes)) = some (some (.string ⟨#[]⟩), 1, 16) := by kernel_rfl
  obtain ⟨i, hi, he⟩ := Option.map_eq_some_iff.1 h
  injection he with h1 h2
  injection h2 with h2 h3
  exact ⟨i, hi, h1, h2, h3⟩

/-- What Steps leaves. -/
def StepsQ (s : ByteArray) (w : World) (e : Ending) (w' : World) : Prop :=
  Below w.heap.size w w' ∧ match stepsS s with
  | none => e = .returned (.tuple #[.slice none 0 0, .int .i64 2])
  | some l => ∃ v, e = .returned (.tuple #[v, .int .i64 0]) ∧ OwnL rStr 9 w.heap.size w' l v ∧ l.length ≤ 4

theorem size_extract (s : ByteArray) (i j : Nat) (h : j ≤ s.size) : (s.extract i j).size = j - i := by
  rw [ByteArray.size_extract]; omega
theorem steps_dot (s : ByteArray) (k fr : Nat) (out : List ByteArray) (hk : k < s.size) (hd : (s[k]'hk).toNat = 46) :
    stepsAt s (s.size - k) fr out = if okStep (s.extract fr k) out.length = true then stepsAt s (s.size - (k + 1)) (k + 1) (out ++ [s.extract fr k]) else none := by
  obtain ⟨d, hd2⟩ : ∃ d, s.size - k = d + 1 := ⟨s.size - k - 1, by omega⟩
  have e1 : s.size - (d + 1) = k := by omega
  have e2 : s.size - (k + 1) = d := by omega
  have e3 : s.size - d = k + 1 := by omega
  have e4 : s.data.toList.getD k 0 = 46 := by
    rw [List.getD_eq_getElem?_getD, List.getElem?_eq_getElem (by simpa using hk)]
    apply UInt8.toNat_inj.1
    exact hd
  rw [hd2, stepsAt, e1, e2, e3, if_pos e4]
theorem steps_no (s : ByteArray) (k fr : Nat) (out : List ByteArray) (hk : k < s.size) (hd : (s[k]'hk).toNat ≠ 46) :
    stepsAt s (s.size - k) fr out = stepsAt s (s.size - (k + 1)) fr out := by
  obtain ⟨d, hd2⟩ : ∃ d, s.size - k = d + 1 := ⟨s.size - k - 1, by omega⟩
  have e1 : s.size - (d + 1) = k := by omega
  have e2 : s.size - (k + 1) = d := by omega
  have e4 : s.data.toList.getD k 0 ≠ 46 := by
    rw [List.getD_eq_getElem?_getD, List.getElem?_eq_getElem (by simpa using hk)]
    intro h; apply hd
    exact congrArg UInt8.toNat h
  rw [hd2, stepsAt, e1, e2, if_neg e4]
theorem steps_end (s : ByteArray) (k fr : Nat) (out : List ByteArray) (hk : k = s.size) :
    stepsAt s (s.size - k) fr out = if okStep (s.extract fr k) out.length = true then some (out ++ [s.extract fr k]) else none := by
  subst hk
  rw [Nat.sub_self, stepsAt]
/-- Why a piece is no step, in the order that is asked; or that it is one. -/
theorem ok_cases (s : ByteArray) (k fr n : Nat) (hk : k ≤ s.size) (hf : fr ≤ k) :
    (((k : Int) == (fr : Int)) = true ∧ okStep (s.extract fr k) n = false) ∨ (((k : Int) == (fr : Int)) = false ∧ (60 : Int) < (k : Int) - fr ∧ okStep (s.extract fr k) n = false) ∨
    (((k : Int) == (fr : Int)) = false ∧ ¬ (60 : Int) < (k : Int) - fr ∧ ((n : Int) == 4) = true ∧ okStep (s.extract fr k) n = false) ∨
    (((k : Int) == (fr : Int)) = false ∧ ¬ (60 : Int) < (k : Int) - fr ∧ ((n : Int) == 4) = false ∧ Lib.validD (s.extract fr k).data.toList = false ∧ okStep (s.extract fr k) n = false) ∨
    (((k : Int) == (fr : Int)) = false ∧ ¬ (60 : Int) < (k : Int) - fr ∧ ((n : Int) == 4) = false ∧ Lib.validD (s.extract fr k).data.toList = true ∧ okStep (s.extract fr k) n = true) := by
  have hs := size_extract s fr k hk
  unfold okStep
  rw [hs]
  by_cases h1 : k = fr
  · left; exact ⟨beq_tt (by omega), by simp [h1]⟩
  have e1 : ((k : Int) == (fr : Int)) = false := beq_ff (by omega)
  by_cases h2 : 60 < k - fr
  · right; left; exact ⟨e1, by omega, by simp; omega⟩
  have e2 : ¬ (60 : Int) < (k : Int) - fr := by omega
  by_cases h3 : n = 4
  · right; right; left; exact ⟨e1, e2, beq_tt (by omega), by simp [h3]⟩
  have e3 : ((n : Int) == 4) = false := beq_ff (by omega)
  cases h4 : Lib.validD (s.extract fr k).data.toList with
  | false => right; right; right; left; exact ⟨e1, e2, e3, rfl, by simp⟩
  | true => right; right; right; right; exact ⟨e1, e2, e3, rfl, by simp [h3]; omega⟩


set_option maxRecDepth 100000 in
set_option maxHeartbeats 8000000 in
theorem path_Steps_calls (s : ByteArray) (hs : s.size ≤ strMax) (w : World) (hT : Tabs w) : Calls Tryd.prog 40 #[.string s] w (StepsQ s w) := by
  obtain ⟨i0, hi, hz0, hz1, hz2⟩ := str_info
  have hs' : s.size ≤ 281474976710656 := hs
  have HT := K.mk hT
  clear hs hT
  go_enter Tryd.func40, Tryd.ntmps40
  go_wp2_with fail
  go_loopg [4, 5, 6] (s.size + 1) (fun g s4 s5 s6 wr => ∃ (k fr : Nat) (out : List ByteArray) (v : Value), k ≤ s.size + 1 ∧ s.size + 1 - k ≤ g ∧ fr ≤ k ∧ s6 = .int .i64 k ∧ s5 = .int .i64 fr ∧ s4 = v ∧ K (OwnL rStr 9 w.heap.size wr out v) ∧ out.length ≤ 4 ∧ K (Below w.heap.size w wr) ∧ K (stepsS s = if k ≤ s.size then stepsAt s (s.size - k) fr out else some out))
  case atStart => exact ⟨0, 0, [], _, Nat.zero_le _, Nat.le_refl _, Nat.le_refl _, rfl, rfl, rfl, ⟨OwnL.nil _ _ _ _⟩, Nat.zero_le _, ⟨Below.refl _ _⟩, ⟨by rw [if_pos (Nat.zero_le _), Nat.sub_zero]; rfl⟩⟩
  case round =>
    obtain ⟨k, fr, out, v, hk', hg, hf, rfl, rfl, rfl, HO, ho, HB, HS⟩ := hrel
    obtain ⟨vA, vc, hv⟩ := HO.o.form
    have hHB := HB.o.size
    rcases Nat.lt_or_ge s.size k with hend | hle
    · have hS2 := HS.o
      rw [if_neg (by omega)] at hS2
      have HS2 := K.mk hS2
      have hge : ¬ (k : Int) ≤ (s.size : Int) := by omega
      clear hS2 hv
      go_wp2_with fail
      go_ret2
      exact ⟨HB.o, by rw [HS2.o]; exact ⟨_, rfl, HO.o, ho⟩⟩
    · have hle' : (k : Int) ≤ (s.size : Int) := by omega
      have hS2 := HS.o
      rw [if_pos hle] at hS2
      have hway : (∃ hlt : k < s.size, (s[k]'hlt).toNat ≠ 46) ∨ ((k = s.size ∨ ∃ hlt : k < s.size, (s[k]'hlt).toNat = 46) ∧ (okStep (s.extract fr k) out.length = false → stepsS s = none) ∧ (okStep (s.extract fr k) out.length = true → stepsS s = if k + 1 ≤ s.size then stepsAt s (s.size - (k + 1)) (k + 1) (out ++ [s.extract fr k]) else some (out ++ [s.extract fr k]))) := by
        rcases Nat.lt_or_ge k s.size with hlt | hge
        · by_cases hd : (s[k]'hlt).toNat = 46
          · right
            rw [steps_dot s k fr out hlt hd] at hS2
            refine ⟨.inr ⟨hlt, hd⟩, fun h => ?_, fun h => ?_⟩
            · rw [hS2, h]; rfl
            · rw [hS2, h, if_pos rfl, if_pos (by omega)]
          · left; exact ⟨hlt, hd⟩
        · right
          have hkk : k = s.size := by omega
          rw [steps_end s k fr out hkk] at hS2
          refine ⟨.inl hkk, fun h => ?_, fun h => ?_⟩
          · rw [hS2, h]; rfl
          · rw [hS2, h, if_pos rfl, if_neg (by omega)]
      rcases hway with ⟨hlt, hd⟩ | ⟨hend, hno, hyes⟩
      · have hlt' : (k : Int) < (s.size : Int) := by omega
        have hd1 : (((s[k]'hlt).toNat : Int) == 46) = false := beq_ff (by omega)
        have hd2 : (((s[k]'hlt).toNat : Int) != 46) = true := bne_tt (by omega)
        have hn := steps_no s k fr out hlt hd
        have HN := K.mk (hS2.trans hn)
        clear hd hn hS2 hv
        go_wp2_with fail
        go_roundg (s.size + 1 - (k + 1))
        case measure => omega
        case rel => exact ⟨k + 1, fr, out, _, by omega, Nat.le_refl _, by omega, by go_num, rfl, rfl, HO, ho, HB, ⟨by rw [if_pos (by omega)]; exact HN.o⟩⟩
      · have HNo := K.mk hno
        have HYes := K.mk hyes
        have hoks := ok_cases s k fr out.length hle hf
        have hsx := size_extract s fr k hle
        have HC := K.mk (fun (h60 : (s.extract fr k).size ≤ 60) => Tryd.utf8_ValidString (s.extract fr k) wr (by omega) (HT.o.below HB.o))
        have HV := K.mk hv
        clear hno hyes hS2
        have hsub : (0 : Int) ≤ (k : Int) - fr := by omega
        have hend' : (k : Int) < (s.size : Int) ∧ (∃ hlt : k < s.size, (((s[k]'hlt).toNat : Int) != 46) = false) ∨ ¬ (k : Int) < (s.size : Int) := by
          rcases hend with h | ⟨hlt, h⟩
          · right; omega
          · left; exact ⟨by omega, hlt, bne_ff (by omega)⟩
        clear hend
        rcases hoks with ⟨q1, hok⟩ | ⟨q1, q2, hok⟩ | ⟨q1, q2, q3, hok⟩ | ⟨q1, q2, q3, q4, hok⟩ | ⟨q1, q2, q3, q4, hok⟩
        · have HN := K.mk (HNo.o hok)
          clear hok hsx HC
          subst hv
          rcases hend' with ⟨hlt', hlt, hd⟩ | hlt'
          all_goals
            go_wp2_with fail
            go_ret2
            exact ⟨HB.o, by rw [HN.o]; rfl⟩
        · have HN := K.mk (HNo.o hok)
          clear hok hsx HC
          subst hv
          rcases hend' with ⟨hlt', hlt, hd⟩ | hlt'
          all_goals
            go_wp2_with fail
            go_ret2
            exact ⟨HB.o, by rw [HN.o]; rfl⟩
        · have HN := K.mk (HNo.o hok)
          clear hok hsx HC
          subst hv
          rcases hend' with ⟨hlt', hlt, hd⟩ | hlt'
          all_goals
            go_wp2_with fail
            go_ret2
            exact ⟨HB.o, by rw [HN.o]; rfl⟩
        · have HN := K.mk (HNo.o hok)
          have hCC := HC.o (by omega)
          rw [q4] at hCC
          have HCC := K.mk hCC
          clear hok hsx HC hCC q4
          subst hv
          rcases hend' with ⟨hlt', hlt, hd⟩ | hlt'
          all_goals
            go_wp2_with (go_at_call 64; go_must (refine HCC.o.mono ?_); rintro e w2 ⟨rfl, hb2⟩)
            go_ret2
            exact ⟨below2 HB.o hb2, by rw [HN.o]; rfl⟩
        · have HY := K.mk (HYes.o hok)
          have hCC := HC.o (by omega)
          rw [q4] at hCC
          have HCC := K.mk hCC
          have HSX := K.mk hsx
          clear hok hsx HC hCC q4
          subst hv
          rcases hend' with ⟨hlt', hlt, hd⟩ | hlt'
          all_goals
            go_wp2_with (first
              | (go_at_call 64; go_must (refine HCC.o.mono ?_); rintro e w2 ⟨rfl, hb2⟩; have HB2 := K.mk hb2; clear hb2)
              | (at_builtin; refine wpList_append_L (w := w2) rStr rfl _ _ 34 rfl w.heap.size 9 i0 (.string ⟨#[]⟩) 16 Tryd.underlying34 hi hz0 hz1 hz2 rfl Nat.one_pos _ out rfl (HO.o.more HB2.o) (s.extract fr k) [.string (s.extract fr k)] ⟨rfl, by rw [HSX.o]; unfold strMax; omega⟩ rfl ?_ (below_a1 _ _) (by unfold maxLen; omega) (by omega) (by have := HB2.o.size; omega) ?_))
            case _ => intro j u hu; exact (Blk.new w2 9 [.string (s.extract fr k)]).cell j hu
            intro v' w3 hown' hgrow hnn hat
            have HO' := K.mk hown'
            have HB3 := K.mk (((below2 HB.o HB2.o).alloc (below2 HB.o HB2.o).size (.cells #[.string (s.extract fr k)] 9)).grown hgrow (by have := (below2 HB.o HB2.o).size; simp; omega) (fun q hq => (HO.o.lt q hq).1))
            obtain ⟨vA', vc', hv'⟩ := hown'.form
            clear hown' hgrow hnn hat
            subst hv'
            go_wp2_with fail
            go_roundg (s.size + 1 - (k + 1))
            case measure => omega
            case rel => exact ⟨k + 1, k + 1, out ++ [s.extract fr k], _, by omega, Nat.le_refl _, Nat.le_refl _, by go_num, by go_num, rfl, HO', by simp at q3; simp; omega, HB3, HY⟩
set_option maxRecDepth 100000 in
set_option maxHeartbeats 8000000 in
theorem ref_Steps_calls (s : ByteArray) (hs : s.size ≤ strMax) (w : World) (hT : Tabs w) : Calls Tryd.prog 44 #[.string s] w (StepsQ s w) := by
  obtain ⟨i0, hi, hz0, hz1, hz2⟩ := str_info
  have hs' : s.size ≤ 281474976710656 := hs
  have HT := K.mk hT
  clear hs hT
  go_enter Tryd.func44, Tryd.ntmps44
  go_wp2_with fail
  go_loopg [4, 5, 6] (s.size + 1) (fun g s4 s5 s6 wr => ∃ (k fr : Nat) (out : List ByteArray) (v : Value), k ≤ s.size + 1 ∧ s.size + 1 - k ≤ g ∧ fr ≤ k ∧ s6 = .int .i64 k ∧ s5 = .int .i64 fr ∧ s4 = v ∧ K (OwnL rStr 9 w.heap.size wr out v) ∧ out.length ≤ 4 ∧ K (Below w.heap.size w wr) ∧ K (stepsS s = if k ≤ s.size then stepsAt s (s.size - k) fr out else some out))
  case atStart => exact ⟨0, 0, [], _, Nat.zero_le _, Nat.le_refl _, Nat.le_refl _, rfl, rfl, rfl, ⟨OwnL.nil _ _ _ _⟩, Nat.zero_le _, ⟨Below.refl _ _⟩, ⟨by rw [if_pos (Nat.zero_le _), Nat.sub_zero]; rfl⟩⟩
  case round =>
    obtain ⟨k, fr, out, v, hk', hg, hf, rfl, rfl, rfl, HO, ho, HB, HS⟩ := hrel
    obtain ⟨vA, vc, hv⟩ := HO.o.form
    have hHB := HB.o.size
    rcases Nat.lt_or_ge s.size k with hend | hle
    · have hS2 := HS.o
      rw [if_neg (by omega)] at hS2
      have HS2 := K.mk hS2
      have hge : ¬ (k : Int) ≤ (s.size : Int) := by omega
      clear hS2 hv
      go_wp2_with fail
      go_ret2
      exact ⟨HB.o, by rw [HS2.o]; exact ⟨_, rfl, HO.o, ho⟩⟩
    · have hle' : (k : Int) ≤ (s.size : Int) := by omega
      have hS2 := HS.o
      rw [if_pos hle] at hS2
      have hway : (∃ hlt : k < s.size, (s[k]'hlt).toNat ≠ 46) ∨ ((k = s.size ∨ ∃ hlt : k < s.size, (s[k]'hlt).toNat = 46) ∧ (okStep (s.extract fr k) out.length = false → stepsS s = none) ∧ (okStep (s.extract fr k) out.length = true → stepsS s = if k + 1 ≤ s.size then stepsAt s (s.size - (k + 1)) (k + 1) (out ++ [s.extract fr k]) else some (out ++ [s.extract fr k]))) := by
        rcases Nat.lt_or_ge k s.size with hlt | hge
        · by_cases hd : (s[k]'hlt).toNat = 46
          · right
            rw [steps_dot s k fr out hlt hd] at hS2
            refine ⟨.inr ⟨hlt, hd⟩, fun h => ?_, fun h => ?_⟩
            · rw [hS2, h]; rfl
            · rw [hS2, h, if_pos rfl, if_pos (by omega)]
          · left; exact ⟨hlt, hd⟩
        · right
          have hkk : k = s.size := by omega
          rw [steps_end s k fr out hkk] at hS2
          refine ⟨.inl hkk, fun h => ?_, fun h => ?_⟩
          · rw [hS2, h]; rfl
          · rw [hS2, h, if_pos rfl, if_neg (by omega)]
      rcases hway with ⟨hlt, hd⟩ | ⟨hend, hno, hyes⟩
      · have hlt' : (k : Int) < (s.size : Int) := by omega
        have hd1 : (((s[k]'hlt).toNat : Int) == 46) = false := beq_ff (by omega)
        have hd2 : (((s[k]'hlt).toNat : Int) != 46) = true := bne_tt (by omega)
        have hn := steps_no s k fr out hlt hd
        have HN := K.mk (hS2.trans hn)
        clear hd hn hS2 hv
        go_wp2_with fail
        go_roundg (s.size + 1 - (k + 1))
        case measure => omega
        case rel => exact ⟨k + 1, fr, out, _, by omega, Nat.le_refl _, by omega, by go_num, rfl, rfl, HO, ho, HB, ⟨by rw [if_pos (by omega)]; exact HN.o⟩⟩
      · have HNo := K.mk hno
        have HYes := K.mk hyes
        have hoks := ok_cases s k fr out.length hle hf
        have hsx := size_extract s fr k hle
        have HC := K.mk (fun (h60 : (s.extract fr k).size ≤ 60) => Valid_calls (s.extract fr k) (by omega) wr)
        have HV := K.mk hv
        clear hno hyes hS2
        have hsub : (0 : Int) ≤ (k : Int) - fr := by omega
        have hend' : (k : Int) < (s.size : Int) ∧ (∃ hlt : k < s.size, (((s[k]'hlt).toNat : Int) != 46) = false) ∨ ¬ (k : Int) < (s.size : Int) := by
          rcases hend with h | ⟨hlt, h⟩
          · right; omega
          · left; exact ⟨by omega, hlt, bne_ff (by omega)⟩
        clear hend
        rcases hoks with ⟨q1, hok⟩ | ⟨q1, q2, hok⟩ | ⟨q1, q2, q3, hok⟩ | ⟨q1, q2, q3, q4, hok⟩ | ⟨q1, q2, q3, q4, hok⟩
        · have HN := K.mk (HNo.o hok)
          clear hok hsx HC
          subst hv
          rcases hend' with ⟨hlt', hlt, hd⟩ | hlt'
          all_goals
            go_wp2_with fail
            go_ret2
            exact ⟨HB.o, by rw [HN.o]; rfl⟩
        · have HN := K.mk (HNo.o hok)
          clear hok hsx HC
          subst hv
          rcases hend' with ⟨hlt', hlt, hd⟩ | hlt'
          all_goals
            go_wp2_with fail
            go_ret2
            exact ⟨HB.o, by rw [HN.o]; rfl⟩
        · have HN := K.mk (HNo.o hok)
          clear hok hsx HC
          subst hv
          rcases hend' with ⟨hlt', hlt, hd⟩ | hlt'
          all_goals
            go_wp2_with fail
            go_ret2
            exact ⟨HB.o, by rw [HN.o]; rfl⟩
        · have HN := K.mk (HNo.o hok)
          have hCC := HC.o (by omega)
          rw [q4] at hCC
          have HCC := K.mk hCC
          clear hok hsx HC hCC q4
          subst hv
          rcases hend' with ⟨hlt', hlt, hd⟩ | hlt'
          all_goals
            go_wp2_with (go_at_call 68; go_must (refine HCC.o.mono ?_); rintro e w2 ⟨rfl, hb2⟩)
            go_ret2
            exact ⟨below2 HB.o hb2, by rw [HN.o]; rfl⟩
        · have HY := K.mk (HYes.o hok)
          have hCC := HC.o (by omega)
          rw [q4] at hCC
          have HCC := K.mk hCC
          have HSX := K.mk hsx
          clear hok hsx HC hCC q4
          subst hv
          rcases hend' with ⟨hlt', hlt, hd⟩ | hlt'
          all_goals
            go_wp2_with (first
              | (go_at_call 68; go_must (refine HCC.o.mono ?_); rintro e w2 ⟨rfl, hb2⟩; have HB2 := K.mk hb2; clear hb2)
              | (at_builtin; refine wpList_append_L (w := w2) rStr rfl _ _ 34 rfl w.heap.size 9 i0 (.string ⟨#[]⟩) 16 Tryd.underlying34 hi hz0 hz1 hz2 rfl Nat.one_pos _ out rfl (HO.o.more HB2.o) (s.extract fr k) [.string (s.extract fr k)] ⟨rfl, by rw [HSX.o]; unfold strMax; omega⟩ rfl ?_ (below_a1 _ _) (by unfold maxLen; omega) (by omega) (by have := HB2.o.size; omega) ?_))
            case _ => intro j u hu; exact (Blk.new w2 9 [.string (s.extract fr k)]).cell j hu
            intro v' w3 hown' hgrow hnn hat
            have HO' := K.mk hown'
            have HB3 := K.mk (((below2 HB.o HB2.o).alloc (below2 HB.o HB2.o).size (.cells #[.string (s.extract fr k)] 9)).grown hgrow (by have := (below2 HB.o HB2.o).size; simp; omega) (fun q hq => (HO.o.lt q hq).1))
            obtain ⟨vA', vc', hv'⟩ := hown'.form
            clear hown' hgrow hnn hat
            subst hv'
            go_wp2_with fail
            go_roundg (s.size + 1 - (k + 1))
            case measure => omega
            case rel => exact ⟨k + 1, k + 1, out ++ [s.extract fr k], _, by omega, Nat.le_refl _, Nat.le_refl _, by go_num, by go_num, rfl, HO', by simp at q3; simp; omega, HB3, HY⟩
end Go.Proofs.YtgcbkecpplhknaaDoor
