/- Walks: formed of the program, of an Array or Object; Formed. -/
import Derived.Test.YtgcbkecpplhknaaDoorJFormB


import Derived.WalkKit
import Derived.Deep.QuietTactic
import Derived.BigQuiet
import Derived.Outline
import Derived.Deep.DeepMust
import Derived.Deep.CutBlock
import Derived.Deep.DeepCutAuto
import Derived.Deep.RegionWith
import Derived.WalkSpells
import Derived.WalkLawsBesides
import Derived.Test.YtgcbkecpplhknaaDoorMu
import Derived.Test.YtgcbkecpplhknaaDoorProg
set_option linter.unusedVariables false
set_option linter.unusedSimpArgs false
namespace Go.Proofs.YtgcbkecpplhknaaDoor
open Go.RowKit Go.Mu

theorem big_cases (v : JV) (h : baseS v = true) (h5 : ¬ v.kind < 5) : 0 ≤ v.kind ∧ v.kind ≤ 6 ∧ 5 ≤ v.kind ∧ (v.kind != 3) = true ∧ (v.num != 0) = false ∧ (v.kind != 4) = true ∧ v.text.toList.isEmpty = true := by
  rcases good_cases v h with ⟨_, _, hk, _⟩ | ⟨_, _, hk, _⟩ | ⟨q1, q2, q3, q4, q5, q6⟩
  · exact absurd hk h5
  · exact absurd hk h5
  · exact ⟨q1, q2, by omega, q3, q4, q5, q6⟩
/-- The number of names that there must be. -/
def wantS (v : JV) : Nat := if v.kind = 6 then v.items.length else 0
theorem count_bad1 (v : JV) (h : 24 < v.items.length) : countS v = false := by simp [countS]; omega
theorem count_bad2 (v : JV) (h : ¬ v.names.length = wantS v) : countS v = false := by unfold wantS at h; simp [countS, h]
theorem count_good (v : JV) (h : ¬ 24 < v.items.length) (h2 : v.names.length = wantS v) : countS v = true := by unfold wantS at h2; simp [countS, h2]; omega


set_option maxRecDepth 100000 in
set_option maxHeartbeats 8000000 in
theorem formed_big1 (m : Nat) (v : JV) (cs : List Value) (S : Blocks) (w : World) (hm : m < 100) (h : RV w S v cs) (hT : Tabs w) (hb : baseS v = true) (htx : textS v.text = true) (h5 : ¬ v.kind < 5) (hc : countS v = false) :
    Calls Tryd.prog 52 #[.agg cs.toArray, .int .i64 (m + 1 : Nat)] w fun e w' => e = .returned (.bool (formS (m + 1) v)) ∧ Below w.heap.size w w' := by
  obtain ⟨An, cn, Ai, ci, rfl, hnm, hit, hk, hn, ht⟩ := h.wide
  have hilen := hit.len_le
  have hnlen := hnm.len_le
  have m1 : ((m : Int) + 1 == 0) = false := beq_ff (by omega)
  have HF := K.mk (formS_big m v hb htx h5)
  have HC := K.mk (json_text_calls v.text _ (hT.below (below_a2 w (.cells #[.int .i64 v.kind, .int .i64 v.num, .string v.text, .slice An v.names.length cn, .slice Ai v.items.length ci] 37) (.cells #[.int .i64 (m + 1 : Nat)] 3))))
  rw [htx] at HC
  obtain ⟨q0, q1, q2, q3, q4, q5, q6⟩ := big_cases v hb h5
  have hf : formS (m + 1) v = false := by rw [HF.o, hc]; rfl
  have HG := K.mk hf
  have hcn : 24 < v.items.length ∨ (¬ 24 < v.items.length ∧ ¬ v.names.length = wantS v) := by
    by_cases c1 : 24 < v.items.length
    · exact .inl c1
    · refine .inr ⟨c1, fun c2 => ?_⟩
      rw [count_good v c1 c2] at hc; cases hc
  clear hf hnm hit h hT htx hb h5 hc
  rcases hcn with c1 | ⟨c1, c2⟩
  · have c1z : (24 : Int) < (v.items.length : Int) := by omega
    cases k6 : (v.kind == 6)
    all_goals
      go_enter Tryd.func52, Tryd.ntmps52
      go_upto_region 10 with (go_at_call 79; go_must (refine HC.o.mono ?_); rintro e w1 ⟨rfl, hb'⟩; have HV := K.mk ((Blk.new1 _ _ _ _).below hb' (by simp; omega)); have HL := K.mk ((Blk.new2 _ _ _ _).below hb' (by simp)); have HB := K.mk (below2 (below_a2 _ _ _) hb'); have v0 := HV.o.cell 0 rfl; have v4 := HV.o.cell 4 rfl; have v3 := HV.o.cell 3 rfl; clear hb')
      go_wp2_with fail
      go_ret
      exact ⟨by rw [HG.o]; rfl, HB.o⟩
  · have c1z : ¬ (24 : Int) < (v.items.length : Int) := by omega
    cases k6 : (v.kind == 6)
    · have k6' : ¬ v.kind = 6 := by simpa using k6
      have c3 : ((v.names.length : Int) != 0) = true := bne_tt (by simp [wantS, k6'] at c2; simpa using c2)
      clear k6' c2
      go_enter Tryd.func52, Tryd.ntmps52
      go_upto_region 10 with (go_at_call 79; go_must (refine HC.o.mono ?_); rintro e w1 ⟨rfl, hb'⟩; have HV := K.mk ((Blk.new1 _ _ _ _).below hb' (by simp; omega)); have HL := K.mk ((Blk.new2 _ _ _ _).below hb' (by simp)); have HB := K.mk (below2 (below_a2 _ _ _) hb'); have v0 := HV.o.cell 0 rfl; have v4 := HV.o.cell 4 rfl; have v3 := HV.o.cell 3 rfl; clear hb')
      go_wp2_with fail
      go_ret
      exact ⟨by rw [HG.o]; rfl, HB.o⟩
    · have k6' : v.kind = 6 := by simpa using k6
      have c3 : ((v.names.length : Int) != (v.items.length : Int)) = true := bne_tt (by simp [wantS, k6'] at c2; omega)
      clear k6' c2
      go_enter Tryd.func52, Tryd.ntmps52
      go_upto_region 10 with (go_at_call 79; go_must (refine HC.o.mono ?_); rintro e w1 ⟨rfl, hb'⟩; have HV := K.mk ((Blk.new1 _ _ _ _).below hb' (by simp; omega)); have HL := K.mk ((Blk.new2 _ _ _ _).below hb' (by simp)); have HB := K.mk (below2 (below_a2 _ _ _) hb'); have v0 := HV.o.cell 0 rfl; have v4 := HV.o.cell 4 rfl; have v3 := HV.o.cell 3 rfl; clear hb')
      go_wp2_with fail
      go_ret
      exact ⟨by rw [HG.o]; rfl, HB.o⟩

set_option maxRecDepth 100000 in
set_option maxHeartbeats 8000000 in
theorem formed_big2 (m : Nat) (v : JV) (cs : List Value) (S : Blocks) (w : World) (hm : m < 100) (h : RV w S v cs) (hT : Tabs w) (hb : baseS v = true) (htx : textS v.text = true) (h5 : ¬ v.kind < 5) (hc : countS v = true)
    (ih : ∀ (v : JV) (cs : List Value) (S : Blocks) (w : World), RV w S v cs → Tabs w → Calls Tryd.prog 52 #[.agg cs.toArray, .int .i64 (m : Nat)] w fun e w' => e = .returned (.bool (formS m v)) ∧ Below w.heap.size w w') :
    Calls Tryd.prog 52 #[.agg cs.toArray, .int .i64 (m + 1 : Nat)] w fun e w' => e = .returned (.bool (formS (m + 1) v)) ∧ Below w.heap.size w w' := by
  obtain ⟨An, cn, Ai, ci, rfl, hnm, hit, hk, hn, ht⟩ := h.wide
  have hilen := hit.len_le
  have hnlen := hnm.len_le
  have m1 : ((m : Int) + 1 == 0) = false := beq_ff (by omega)
  have HF := K.mk (formS_big m v hb htx h5)
  have HC := K.mk (json_text_calls v.text _ (hT.below (below_a2 w (.cells #[.int .i64 v.kind, .int .i64 v.num, .string v.text, .slice An v.names.length cn, .slice Ai v.items.length ci] 37) (.cells #[.int .i64 (m + 1 : Nat)] 3))))
  rw [htx] at HC
  obtain ⟨q0, q1, q2, q3, q4, q5, q6⟩ := big_cases v hb h5
  have hcn : ¬ 24 < v.items.length ∧ v.names.length = wantS v := by
    by_cases c1 : 24 < v.items.length
    · rw [count_bad1 v c1] at hc; cases hc
    · by_cases c2 : v.names.length = wantS v
      · exact ⟨c1, c2⟩
      · rw [count_bad2 v c2] at hc; cases hc
  have hf : formS (m + 1) v = (namesS v.names && v.items.all (formS m)) := by rw [HF.o, hc]; rfl
  have HG := K.mk hf
  have HR := K.mk hit
  have HN := K.mk hnm
  have HT := K.mk hT
  have IH := K.mk ih
  have c1z : ¬ (24 : Int) < (v.items.length : Int) := by omega
  have hk6 : ((v.kind == 6) = false ∧ ((v.names.length : Int) != 0) = false) ∨ ((v.kind == 6) = true ∧ ((v.names.length : Int) != (v.items.length : Int)) = false) := by
    have c2 := hcn.2
    unfold wantS at c2
    by_cases k6 : v.kind = 6
    · right; exact ⟨by simp [k6], bne_ff (by simp [k6] at c2; omega)⟩
    · left; exact ⟨by simp [k6], bne_ff (by simp [k6] at c2; simp [c2])⟩
  clear hf hnm hit h hT htx hb h5 hc HF hcn ih
  rcases hk6 with ⟨k6, c3⟩ | ⟨k6, c3⟩
  all_goals
    go_enter Tryd.func52, Tryd.ntmps52
    go_upto_region 10 with (go_at_call 79; go_must (refine HC.o.mono ?_); rintro e w1 ⟨rfl, hb'⟩; have HV := K.mk ((Blk.new1 _ _ _ _).below hb' (by simp; omega)); have HL := K.mk ((Blk.new2 _ _ _ _).below hb' (by simp)); have HB := K.mk (below2 (below_a2 _ _ _) hb'); have v0 := HV.o.cell 0 rfl; have v4 := HV.o.cell 4 rfl; have v3 := HV.o.cell 3 rfl; clear hb')
    clear HC
    go_wp2_with fail
    go_loopg [79] v.names.length (fun g s79 wr => ∃ k : Nat, k ≤ v.names.length ∧ v.names.length - k ≤ g ∧ s79 = .int .i64 k ∧ K (allTo k (nameAt v.names) = true) ∧ K (Below w.heap.size w wr) ∧ K (Blk wr w.heap.size 37 [.int .i64 v.kind, .int .i64 v.num, .string v.text, .slice An v.names.length cn, .slice Ai v.items.length ci]) ∧ K (Blk wr (w.heap.size + 1) 3 [.int .i64 (m + 1 : Nat)]))
    case atStart => exact ⟨0, Nat.zero_le _, Nat.le_refl _, rfl, ⟨allTo_zero _⟩, HB, HV, HL⟩
    case round =>
      clear HB HV HL v0 v3 v4
      obtain ⟨k, hk', hg, rfl, HD, HB, HV, HL⟩ := hrel
      have v3 := HV.o.cell 3 rfl
      by_cases hlt : k < v.names.length
      · obtain ⟨b, o, x, xcs, rfl, hS, hbb, hx, ⟨rfl, hxs⟩, hcx⟩ := HN.o.at1 k hlt
        have c0 := (hcx.below HB.o).one
        have hgx : v.names.getD k ByteArray.empty = x := by rw [List.getD_eq_getElem?_getD, hx]; rfl
        have HGX := K.mk hgx
        have hct := json_text_calls x wr (HT.o.below HB.o)
        clear hgx hx hcx
        have hsz := HV.o.lt
        have hsz2 := HL.o.lt
        cases htx : textS x with
        | false =>
          rw [htx] at hct
          have HC := K.mk hct
          have hbad : nameAt v.names k = false := by unfold nameAt; rw [HGX.o, htx]; rfl
          have HBD := K.mk (allTo_false k hlt hbad)
          clear hct htx hbad
          go_wp2_with (go_at_call 79; go_must (refine HC.o.mono ?_); rintro e w2 ⟨rfl, hb2⟩)
          go_ret
          exact ⟨ret_bool (by rw [HG.o]; unfold namesS; rw [HBD.o]; rfl), below2 HB.o hb2⟩
        | true =>
          rw [htx] at hct
          have HC := K.mk hct
          have HTX := K.mk htx
          clear hct htx
          by_cases hk0 : k = 0
          · subst hk0
            have hok : nameAt v.names 0 = true := by unfold nameAt; rw [HGX.o, HTX.o]; rfl
            have HOK := K.mk hok
            simp only [Nat.add_zero] at c0
            clear hok
            go_wp2_with (go_at_call 79; go_must (refine HC.o.mono ?_); rintro e w2 ⟨rfl, hb2⟩)
            go_roundg (v.names.length - 1)
            case measure => omega
            case rel => exact ⟨1, by omega, Nat.le_refl _, by go_num, ⟨by rw [allTo_succ, HOK.o]; rfl⟩, ⟨below2 HB.o hb2⟩, ⟨HV.o.below hb2 hsz⟩, ⟨HL.o.below hb2 hsz2⟩⟩
          · obtain ⟨j, rfl⟩ : ∃ j, k = j + 1 := ⟨k - 1, by omega⟩
            obtain ⟨b', o', y, ycs, hbo, _, _, hy, ⟨rfl, hys⟩, hcy⟩ := HN.o.at1 j (by omega)
            injection hbo with hbo
            injection hbo with hb1 ho1
            subst hb1 ho1
            have hgy : v.names.getD j ByteArray.empty = y := by rw [List.getD_eq_getElem?_getD, hy]; rfl
            have HGY := K.mk hgy
            have hnm : nameAt v.names (j + 1) = ltB y x := by
              unfold nameAt
              rw [HGX.o, HTX.o, show j + 1 - 1 = j from rfl, HGY.o]; simp
            have HNM := K.mk hnm
            have hd0 := (hcy.below HB.o).one
            have hcell : ∀ w2, Below wr.heap.size wr w2 → w2.cell? ⟨b, o + j, none⟩ = some (.string y) := fun w2 h2 => (h2.cell (p := ⟨b, o + j, none⟩) (World.block_lt_of_cell? wr _ hd0)).trans hd0
            have HCY := K.mk hcell
            clear hy hcy hgy hnm hd0 hcell hk0
            cases hlt2 : Op.bytesLess y.toList x.toList with
            | false =>
              have HLT := K.mk hlt2
              go_wp2_with (go_at_call 79; go_must (refine HC.o.mono ?_); rintro e w2 ⟨rfl, hb2⟩; have d0 := HCY.o _ hb2; have HV2 := K.mk (HV.o.below hb2 hsz); have e3 := HV2.o.cell 3 rfl)
              go_ret
              exact ⟨ret_bool (by rw [HG.o]; unfold namesS; rw [allTo_false (j + 1) hlt (by rw [HNM.o]; exact HLT.o)]; rfl), below2 HB.o hb2⟩
            | true =>
              have HLT := K.mk hlt2
              go_wp2_with (go_at_call 79; go_must (refine HC.o.mono ?_); rintro e w2 ⟨rfl, hb2⟩; have d0 := HCY.o _ hb2; have HV2 := K.mk (HV.o.below hb2 hsz); have e3 := HV2.o.cell 3 rfl)
              go_roundg (v.names.length - (j + 2))
              case measure => omega
              case rel => exact ⟨j + 2, by omega, Nat.le_refl _, by go_num, ⟨by rw [allTo_succ, HD.o, HNM.o]; exact HLT.o⟩, ⟨below2 HB.o hb2⟩, ⟨HV.o.below hb2 hsz⟩, ⟨HL.o.below hb2 hsz2⟩⟩
      · have hkk : k = v.names.length := by omega
        subst hkk
        have v4 := HV.o.cell 4 rfl
        have hns : namesS v.names = true := HD.o
        have hcf := containsFunc_V 81 #[.pointer (some ⟨w.heap.size + 1, 0, none⟩)] (fun _ _ => rfl) v.items Ai ci S wr (fun x => !formS m x) (HR.o.imp (fun b hb hlt => ⟨HB.o.block b hlt, hb⟩) (fun x _ cs hx => rV.below hx HB.o))
          (fun x hx cs W hRx hW => formed1_calls m hm x cs S _ W (rV.below hRx hW) ((HT.o.below HB.o).below hW) ((HL.o.below hW HL.o.lt).cell 0 rfl) IH.o)
        have HC := K.mk hcf
        have HNS := K.mk hns
        clear hcf hns
        go_wp2_with (go_at_call 80; go_must (refine HC.o.mono ?_); rintro e w2 ⟨rfl, hb2⟩)
        go_ret
        exact ⟨ret_bool (by rw [HG.o, HNS.o]; simp [List.all_eq_not_any_not]), below2 HB.o hb2⟩

set_option maxRecDepth 100000 in
set_option maxHeartbeats 4000000 in
theorem json_formed_calls : ∀ (m : Nat), m ≤ 100 → ∀ (v : JV) (cs : List Value) (S : Blocks) (w : World), RV w S v cs → Tabs w →
    Calls Tryd.prog 52 #[.agg cs.toArray, .int .i64 (m : Nat)] w fun e w' => e = .returned (.bool (formS m v)) ∧ Below w.heap.size w w' := by
  intro m
  induction m with
  | zero =>
    intro _ v cs S w h hT
    obtain ⟨An, cn, Ai, ci, rfl, hnm, hit, hk, hn, ht⟩ := h.wide
    have hilen := hit.len_le
    have hnlen := hnm.len_le
    clear hnm hit hT
    go_enter Tryd.func52, Tryd.ntmps52
    go_wp2_with fail
    go_ret
    exact ⟨rfl, below_a2 _ _ _⟩
  | succ m ih =>
    intro hm v cs S w h hT
    have ih' := ih (by omega)
    cases hb : baseS v with
    | false => exact formed_bad1 m v cs S w (by omega) h hb
    | true =>
      cases htx : textS v.text with
      | false => exact formed_bad2 m v cs S w (by omega) h hT hb htx
      | true =>
        by_cases h5 : v.kind < 5
        · exact formed_small m v cs S w (by omega) h hT hb htx h5
        · cases hc : countS v with
          | false => exact formed_big1 m v cs S w (by omega) h hT hb htx h5 hc
          | true => exact formed_big2 m v cs S w (by omega) h hT hb htx h5 hc ih'

theorem json_Formed_calls (v : JV) (cs : List Value) (S : Blocks) (w : World) (h : RV w S v cs) (hT : Tabs w) :
    Calls Tryd.prog 24 #[.agg cs.toArray] w fun e w' => e = .returned (.bool (formS 6 v)) ∧ Below w.heap.size w w' := by
  have HC := K.mk (fun w' (hb : Below w.heap.size w w') => json_formed_calls 6 (by omega) v cs S w' (rV.below h hb) (hT.below hb))
  obtain ⟨An, cn, Ai, ci, rfl, hnm, hit, hk, hn, ht⟩ := h.wide
  have hilen := hit.len_le
  have hnlen := hnm.len_le
  clear hnm hit hT
  go_enter Tryd.func24, Tryd.ntmps24
  go_wp2_with (go_at_call 52; go_must (refine (HC.o _ (by first | exact Below.refl _ _ | exact below_a1 _ _)).mono ?_); rintro e w' ⟨rfl, hb'⟩)
  go_ret
  exact ⟨rfl, by first | exact hb' | exact below2 (below_a1 _ _) hb'⟩

end Go.Proofs.YtgcbkecpplhknaaDoor
