/- Walks: formed of the reference, the loops; Formed. -/
import Derived.Test.YtgcbkecpplhknaaDoorJRef
import Derived.Test.YtgcbkecpplhknaaDoorJFormC



import Derived.WalkKit
import Derived.Deep.QuietTactic
import Derived.BigQuiet
import Derived.Outline
import Derived.Deep.DeepMust
import Derived.Deep.CutBlock
import Derived.Deep.DeepCutAuto
import Derived.Deep.RegionWith
import Derived.WalkSpells
import Derived.WalkLawsBesides
import Derived.Test.YtgcbkecpplhknaaDoorMu
import Derived.Test.YtgcbkecpplhknaaDoorProg
set_option linter.unusedVariables false
set_option linter.unusedSimpArgs false
namespace Go.Proofs.YtgcbkecpplhknaaDoor
open Go.RowKit Go.Mu

set_option maxRecDepth 100000 in
set_option maxHeartbeats 8000000 in
/-- An Object has as many names as items. -/
theorem ref_bad4 (v : JV) (cs : List Value) (S : Blocks) (w : World) (h : RV w S v cs) (hb : baseS v = true) (htx : textS v.text = true) (hc : (v.kind != 6) = false ∧ ¬ v.kind < 5 ∧ ¬ (24 : Int) < v.items.length)
    (hd : ¬ v.names.length = v.items.length) :
    Calls Tryd.prog 85 #[.agg cs.toArray] w fun e w' => e = .returned (.bool (formR v)) ∧ Below w.heap.size w w' := by
  obtain ⟨An, cn, Ai, ci, rfl, hnm, hit, hk, hn, ht⟩ := h.wide
  have hilen := hit.len_le
  have hnlen := hnm.len_le
  have k6 : v.kind = 6 := by simpa using hc.1
  have hf : formR v = false := by rw [formR_eq]; simp [shapeS, k6, hd]
  have HF := K.mk hf
  have HC := K.mk (ref_text_calls v.text)
  simp only [htx] at HC
  obtain ⟨q0, q1, q2, q3, q4, q5, q6⟩ := big_cases v hb hc.2.1
  obtain ⟨p1, p3, p4⟩ := hc
  have p5 : ((v.names.length : Int) != (v.items.length : Int)) = true := bne_tt (by omega)
  have p6 : (v.kind == 6) = true := by simpa using k6
  clear hnm hit h hf hb htx hd k6
  go_enter Tryd.func85, Tryd.ntmps85
  go_wp2_with (go_at_call 118; go_must (refine (HC.o _).mono ?_); rintro e w1 ⟨rfl, hb'⟩; have HV := K.mk ((Blk.new _ _ _).below hb' (by simp)); have v0 := HV.o.cell 0 rfl; have v3 := HV.o.cell 3 rfl; have v4 := HV.o.cell 4 rfl; have HB := K.mk (below2 (below_a1 _ _) hb'); clear hb')
  go_ret
  exact ⟨by rw [HF.o]; rfl, HB.o⟩


set_option maxRecDepth 100000 in
set_option maxHeartbeats 8000000 in
theorem ref_loops3 (v : JV) (cs : List Value) (S : Blocks) (w : World) (h : RV w S v cs) (hb : baseS v = true) (htx : textS v.text = true) (hc : (v.kind != 6) = false ∧ ¬ v.kind < 5 ∧ ¬ (24 : Int) < v.items.length)
    (hd : v.names.length = v.items.length)
    (ih : ∀ x ∈ v.items, ∀ (cs : List Value) (S : Blocks) (w : World), RV w S x cs → Calls Tryd.prog 85 #[.agg cs.toArray] w fun e w' => e = .returned (.bool (formR x)) ∧ Below w.heap.size w w') :
    Calls Tryd.prog 85 #[.agg cs.toArray] w fun e w' => e = .returned (.bool (formR v)) ∧ Below w.heap.size w w' := by
  obtain ⟨An, cn, Ai, ci, rfl, hnm, hit, hk, hn, ht⟩ := h.wide
  have hilen := hit.len_le
  have hnlen := hnm.len_le
  have k6 : v.kind = 6 := by simpa using hc.1
  have hf : formR v = (namesS v.names && v.items.all formR) := by
    have c' : v.items.length ≤ 24 := by omega
    rw [formR_eq]; simp [shapeS, k6, hd, hb, htx, c']
  have HF := K.mk hf
  have HC := K.mk (ref_text_calls v.text)
  simp only [htx] at HC
  have HN := K.mk hnm
  have HR := K.mk hit
  have IH := K.mk ih
  obtain ⟨q0, q1, q2, q3, q4, q5, q6⟩ := big_cases v hb hc.2.1
  obtain ⟨p1, p3, p4⟩ := hc
  have p5 : ((v.names.length : Int) != (v.items.length : Int)) = false := bne_ff (by omega)
  have p6 : (v.kind == 6) = true := by simpa using k6
  clear hnm hit h hf hb htx hd k6 ih
  generalize hln : v.names.length = ln at *
  generalize hli : v.items.length = li at *
  have HLN := K.mk hln
  have HLI := K.mk hli
  clear hln hli
  go_enter Tryd.func85, Tryd.ntmps85
  go_wp2_with (go_at_call 118; go_must (refine (HC.o _).mono ?_); rintro e w1 ⟨rfl, hb'⟩; have HV := K.mk ((Blk.new _ _ _).below hb' (by simp)); have v0 := HV.o.cell 0 rfl; have v3 := HV.o.cell 3 rfl; have v4 := HV.o.cell 4 rfl; have HB := K.mk (below2 (below_a1 _ _) hb'); clear hb')
  clear HC
  go_loopg [3] ln (fun g s3 wr => ∃ k : Nat, k ≤ ln ∧ ln - k ≤ g ∧ s3 = .int .i64 k ∧ K (allTo k (nameAt v.names) = true) ∧ K (Below w.heap.size w wr) ∧ K (Blk wr w.heap.size 37 [.int .i64 v.kind, .int .i64 v.num, .string v.text, .slice An ln cn, .slice Ai li ci]))
  case atStart => exact ⟨0, Nat.zero_le _, Nat.le_refl _, rfl, ⟨allTo_zero _⟩, HB, HV⟩
  case round =>
    clear HB HV v0 v3 v4
    obtain ⟨k, hk', hg, rfl, HD, HB, HV⟩ := hrel
    have v3 := HV.o.cell 3 rfl
    have hsz := HV.o.lt
    rcases Nat.lt_or_ge k ln with hlt | hge
    · skip
      obtain ⟨b, o, x, xcs, rfl, hS, hbb, hx, ⟨rfl, hxs⟩, hcx⟩ := HN.o.at1 k (by rw [HLN.o]; exact hlt)
      have hgx : v.names.getD k ByteArray.empty = x := by rw [List.getD_eq_getElem?_getD, hx]; rfl
      have HGX := K.mk hgx
      have g0 : ∀ p : BW wr, p.wd.cell? ⟨b, o + k, none⟩ = some (.string x) := fun p => (p.hb.cell (p := ⟨b, o + k, none⟩) (World.block_lt_of_cell? wr _ (hcx.below HB.o).one)).trans (hcx.below HB.o).one
      have g3 : ∀ p : BW wr, p.wd.cell? ⟨w.heap.size, 3, none⟩ = some (.slice (some ⟨b, o, none⟩) ln cn) := fun p => (p.hb.cell (p := ⟨w.heap.size, 3, none⟩) hsz).trans v3
      have HC := K.mk (ref_text_calls x)
      clear hgx hcx hx
      cases htx : textS x with
      | false =>
        simp only [htx] at HC
        have hbad : nameAt v.names k = false := by unfold nameAt; rw [HGX.o, htx]; rfl
        have HBD := K.mk (allTo_false k hlt hbad)
        clear htx hbad
        go_wp2_with fail
        refine wp_region_below (by kernel_rfl) (by kernel_rfl) ?_
        repeat (go_big_quiet_step (first | (go_at_call 118; exact bw_call _ (fun W hW => HC.o W))))
        refine wpQuiet_nil ?_
        intro _ hw'
        obtain ⟨⟨wq, hbq⟩, hw''⟩ := hw'
        subst hw''
        go_wp2_with fail
        go_ret
        exact ⟨ret_bool (by rw [HF.o]; unfold namesS; rw [HLN.o, HBD.o]; rfl), below2 HB.o hbq⟩
      | true =>
        simp only [htx] at HC
        have HTX := K.mk htx
        clear htx
        by_cases hk0 : k = 0
        · subst hk0
          have hok : nameAt v.names 0 = true := by unfold nameAt; rw [HGX.o, HTX.o]; rfl
          have HOK := K.mk hok
          simp only [Nat.add_zero] at g0
          clear hok
          go_wp2_with fail
          refine wp_region_below (by kernel_rfl) (by kernel_rfl) ?_
          repeat (go_big_quiet_step (first | (go_at_call 118; exact bw_call _ (fun W hW => HC.o W))))
          refine wpQuiet_nil ?_
          intro _ hw'
          obtain ⟨⟨wq, hbq⟩, hw''⟩ := hw'
          subst hw''
          go_wp2_with fail
          go_roundg (ln - 1)
          case measure => omega
          case rel => exact ⟨1, by omega, Nat.le_refl _, by go_num, ⟨by rw [allTo_succ, HOK.o]; rfl⟩, ⟨below2 HB.o hbq⟩, ⟨HV.o.below hbq hsz⟩⟩
        · obtain ⟨j, rfl⟩ : ∃ j, k = j + 1 := ⟨k - 1, by omega⟩
          obtain ⟨b', o', y, ycs, hbo, _, _, hy, ⟨rfl, hys⟩, hcy⟩ := HN.o.at1 j (by rw [HLN.o]; omega)
          injection hbo with hbo
          injection hbo with hb1 ho1
          subst hb1 ho1
          have hgy : v.names.getD j ByteArray.empty = y := by rw [List.getD_eq_getElem?_getD, hy]; rfl
          have HGY := K.mk hgy
          have hnm : nameAt v.names (j + 1) = ltB y x := by
            unfold nameAt
            rw [HGX.o, HTX.o, show j + 1 - 1 = j from rfl, HGY.o]; simp
          have HNM := K.mk hnm
          have g1 : ∀ p : BW wr, p.wd.cell? ⟨b, o + j, none⟩ = some (.string y) := fun p => (p.hb.cell (p := ⟨b, o + j, none⟩) (World.block_lt_of_cell? wr _ (hcy.below HB.o).one)).trans (hcy.below HB.o).one
          have hpos : (0 : Int) < (j : Int) + 1 := by omega
          clear hy hcy hgy hnm hk0
          cases hlt2 : Op.bytesLess y.toList x.toList with
          | false =>
            have HLT := K.mk hlt2
            go_wp2_with fail
            refine wp_region_below (by kernel_rfl) (by kernel_rfl) ?_
            repeat (go_big_quiet_step (first | (go_at_call 118; exact bw_call _ (fun W hW => HC.o W))))
            refine wpQuiet_nil ?_
            intro _ hw'
            obtain ⟨⟨wq, hbq⟩, hw''⟩ := hw'
            subst hw''
            go_wp2_with fail
            go_ret
            exact ⟨ret_bool (by rw [HF.o]; unfold namesS; rw [HLN.o, allTo_false (j + 1) hlt (by rw [HNM.o]; exact HLT.o)]; rfl), below2 HB.o hbq⟩
          | true =>
            have HLT := K.mk hlt2
            go_wp2_with fail
            refine wp_region_below (by kernel_rfl) (by kernel_rfl) ?_
            repeat (go_big_quiet_step (first | (go_at_call 118; exact bw_call _ (fun W hW => HC.o W))))
            refine wpQuiet_nil ?_
            intro _ hw'
            obtain ⟨⟨wq, hbq⟩, hw''⟩ := hw'
            subst hw''
            go_wp2_with fail
            go_roundg (ln - (j + 2))
            case measure => omega
            case rel => exact ⟨j + 2, by omega, Nat.le_refl _, by go_num, ⟨by rw [allTo_succ, HD.o, HNM.o]; exact HLT.o⟩, ⟨below2 HB.o hbq⟩, ⟨HV.o.below hbq hsz⟩⟩
    · have hkk : ln = k := by omega
      subst hkk
      have hns : namesS v.names = true := by unfold namesS; rw [HLN.o]; exact HD.o
      have HNS := K.mk hns
      clear hns hg HD
      go_wp2_with fail
      go_loopg [4] li (fun g s4 wr => ∃ k : Nat, k ≤ li ∧ li - k ≤ g ∧ s4 = .int .i64 k ∧ K ((v.items.take k).all formR = true) ∧ K (Below w.heap.size w wr) ∧ K (Blk wr w.heap.size 37 [.int .i64 v.kind, .int .i64 v.num, .string v.text, .slice An ln cn, .slice Ai li ci]))
      case atStart => exact ⟨0, Nat.zero_le _, Nat.le_refl _, rfl, ⟨by simp⟩, HB, HV⟩
      case round =>
        clear HB HV hsz v3
        obtain ⟨k, hk', hg, rfl, HD, HB, HV⟩ := hrel
        have v4 := HV.o.cell 4 rfl
        have hsz := HV.o.lt
        rcases Nat.lt_or_ge k li with hlt | hge
        · skip
          obtain ⟨b, o, x, xcs, rfl, hS, hbb, hx, hRx, hcx⟩ := HR.o.at k (by rw [HLI.o]; exact hlt)
          have hcall := IH.o x (List.mem_of_getElem? hx) xcs S wr (rV.below hRx HB.o)
          have HX := K.mk hx
          obtain ⟨xAn, xcn, xA, xc, rfl, _⟩ := hRx.wide
          obtain ⟨c0, c1, c2, c3, c4⟩ := (hcx.below HB.o).five
          clear hx hcx
          cases hq : formR x with
          | false =>
            rw [hq] at hcall
            have HC := K.mk hcall
            have hall : v.items.all formR = false := by
              cases ha : v.items.all formR with
              | false => rfl
              | true => rw [List.all_eq_true] at ha; rw [ha x (List.mem_of_getElem? HX.o)] at hq; cases hq
            have HALL := K.mk hall
            clear hcall hq hall
            go_wp2_with (go_at_call 85; go_must (refine HC.o.mono ?_); rintro e w2 ⟨rfl, hb2⟩)
            go_ret
            exact ⟨ret_bool (by rw [HF.o, HALL.o]; simp), below2 HB.o hb2⟩
          | true =>
            rw [hq] at hcall
            have HC := K.mk hcall
            have HQ := K.mk hq
            clear hcall hq
            go_wp2_with (go_at_call 85; go_must (refine HC.o.mono ?_); rintro e w2 ⟨rfl, hb2⟩)
            go_roundg (li - (k + 1))
            case measure => omega
            case rel => exact ⟨k + 1, by omega, Nat.le_refl _, by go_num, ⟨by rw [all_take_snoc _ _ _ _ HX.o, HD.o, HQ.o]; rfl⟩, ⟨below2 HB.o hb2⟩, ⟨HV.o.below hb2 hsz⟩⟩
        · have hkk : li = k := by omega
          subst hkk
          have ha : v.items.all formR = true := by have h := HD.o; rw [← HLI.o, List.take_length] at h; exact h
          have HA := K.mk ha
          clear ha
          go_wp2_with fail
          go_ret
          exact ⟨ret_bool (by rw [HF.o, HNS.o, HA.o]; rfl), HB.o⟩
end Go.Proofs.YtgcbkecpplhknaaDoor
