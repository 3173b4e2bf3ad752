/- Walks: formed of the reference, no names; Formed; that both say the same. -/
import Derived.Test.YtgcbkecpplhknaaDoorJRefB



import Derived.WalkKit
import Derived.Deep.QuietTactic
import Derived.BigQuiet
import Derived.Outline
import Derived.Deep.DeepMust
import Derived.Deep.CutBlock
import Derived.Deep.DeepCutAuto
import Derived.Deep.RegionWith
import Derived.WalkSpells
import Derived.WalkLawsBesides
import Derived.Test.YtgcbkecpplhknaaDoorMu
import Derived.Test.YtgcbkecpplhknaaDoorProg
set_option linter.unusedVariables false
set_option linter.unusedSimpArgs false
namespace Go.Proofs.YtgcbkecpplhknaaDoor
open Go.RowKit Go.Mu


set_option maxRecDepth 100000 in
set_option maxHeartbeats 8000000 in
theorem ref_loops1 (v : JV) (cs : List Value) (S : Blocks) (w : World) (h : RV w S v cs) (hb : baseS v = true) (htx : textS v.text = true)
    (hc : (v.kind != 6) = true ∧ v.names.length = 0 ∧ v.kind < 5 ∧ v.items.length = 0 ∧ ¬ (24 : Int) < v.items.length) (hs : shapeS v = (textS v.text && namesS v.names))
    (ih : ∀ x ∈ v.items, ∀ (cs : List Value) (S : Blocks) (w : World), RV w S x cs → Calls Tryd.prog 85 #[.agg cs.toArray] w fun e w' => e = .returned (.bool (formR x)) ∧ Below w.heap.size w w') :
    Calls Tryd.prog 85 #[.agg cs.toArray] w fun e w' => e = .returned (.bool (formR v)) ∧ Below w.heap.size w w' := by
  obtain ⟨An, cn, Ai, ci, rfl, hnm, hit, hk, hn, ht⟩ := h.wide
  have hilen := hit.len_le
  have hnlen := hnm.len_le
  have HF := K.mk (show formR v = (namesS v.names && v.items.all formR) by rw [formR_eq, hs, htx]; rfl)
  have HC := K.mk (ref_text_calls v.text)
  simp only [htx] at HC
  have HN := K.mk hnm
  have HR := K.mk hit
  have IH := K.mk ih
  have hgood := good_cases v hb
  generalize hln : v.names.length = ln at *
  generalize hli : v.items.length = li at *
  have HLN := K.mk hln
  have HLI := K.mk hli
  obtain ⟨p1, pn, p3, pi, p4⟩ := hc
  subst pn pi
  have p6 : (v.kind == 6) = false := by simpa using p1
  clear hnm hit h hb htx ih hs hln hli p4
  rcases hgood with ⟨q1, q2, q3, q4, q5, q6⟩ | ⟨q1, q2, q3, q4, q5, q6⟩ | ⟨q1, q2, q4, q5, q6, q7⟩
  all_goals
    go_enter Tryd.func85, Tryd.ntmps85
    go_wp2_with (go_at_call 118; go_must (refine (HC.o _).mono ?_); rintro e w1 ⟨rfl, hb'⟩; have HV := K.mk ((Blk.new _ _ _).below hb' (by simp)); have v0 := HV.o.cell 0 rfl; have v3 := HV.o.cell 3 rfl; have v4 := HV.o.cell 4 rfl; have HB := K.mk (below2 (below_a1 _ _) hb'); clear hb')
    clear HC
    go_loopg [3] 0 (fun g s3 wr => ∃ k : Nat, k ≤ 0 ∧ 0 - k ≤ g ∧ s3 = .int .i64 k ∧ K (allTo k (nameAt v.names) = true) ∧ K (Below w.heap.size w wr) ∧ K (Blk wr w.heap.size 37 [.int .i64 v.kind, .int .i64 v.num, .string v.text, .slice An 0 cn, .slice Ai 0 ci]))
    case atStart => exact ⟨0, Nat.zero_le _, Nat.le_refl _, rfl, ⟨allTo_zero _⟩, HB, HV⟩
    case round =>
      clear HB HV v0 v3 v4
      obtain ⟨k, hk', hg, rfl, HD, HB, HV⟩ := hrel
      have v3 := HV.o.cell 3 rfl
      have hsz := HV.o.lt
      rcases Nat.lt_or_ge k 0 with hlt | hge
      · exact absurd hlt (Nat.not_lt_zero k)
      · have hkk : 0 = k := by omega
        subst hkk
        have hns : namesS v.names = true := by unfold namesS; rw [HLN.o]; exact HD.o
        have HNS := K.mk hns
        clear hns hg HD
        go_wp2_with fail
        go_loopg [4] 0 (fun g s4 wr => ∃ k : Nat, k ≤ 0 ∧ 0 - k ≤ g ∧ s4 = .int .i64 k ∧ K ((v.items.take k).all formR = true) ∧ K (Below w.heap.size w wr) ∧ K (Blk wr w.heap.size 37 [.int .i64 v.kind, .int .i64 v.num, .string v.text, .slice An 0 cn, .slice Ai 0 ci]))
        case atStart => exact ⟨0, Nat.zero_le _, Nat.le_refl _, rfl, ⟨by simp⟩, HB, HV⟩
        case round =>
          clear HB HV hsz v3
          obtain ⟨k, hk', hg, rfl, HD, HB, HV⟩ := hrel
          have v4 := HV.o.cell 4 rfl
          have hsz := HV.o.lt
          rcases Nat.lt_or_ge k 0 with hlt | hge
          · exact absurd hlt (Nat.not_lt_zero k)
          · have hkk : 0 = k := by omega
            subst hkk
            have ha : v.items.all formR = true := by have h := HD.o; rw [← HLI.o, List.take_length] at h; exact h
            have HA := K.mk ha
            clear ha
            go_wp2_with fail
            go_ret
            exact ⟨ret_bool (by rw [HF.o, HNS.o, HA.o]; rfl), HB.o⟩

set_option maxRecDepth 100000 in
set_option maxHeartbeats 8000000 in
theorem ref_loops2 (v : JV) (cs : List Value) (S : Blocks) (w : World) (h : RV w S v cs) (hb : baseS v = true) (htx : textS v.text = true)
    (hc : (v.kind != 6) = true ∧ v.names.length = 0 ∧ ¬ v.kind < 5 ∧ ¬ (24 : Int) < v.items.length) (hs : shapeS v = (textS v.text && namesS v.names))
    (ih : ∀ x ∈ v.items, ∀ (cs : List Value) (S : Blocks) (w : World), RV w S x cs → Calls Tryd.prog 85 #[.agg cs.toArray] w fun e w' => e = .returned (.bool (formR x)) ∧ Below w.heap.size w w') :
    Calls Tryd.prog 85 #[.agg cs.toArray] w fun e w' => e = .returned (.bool (formR v)) ∧ Below w.heap.size w w' := by
  obtain ⟨q0, q1, q2, q3, q4, q5, q6⟩ := big_cases v hb hc.2.2.1
  obtain ⟨An, cn, Ai, ci, rfl, hnm, hit, hk, hn, ht⟩ := h.wide
  have hilen := hit.len_le
  have hnlen := hnm.len_le
  have HF := K.mk (show formR v = (namesS v.names && v.items.all formR) by rw [formR_eq, hs, htx]; rfl)
  have HC := K.mk (ref_text_calls v.text)
  simp only [htx] at HC
  have HN := K.mk hnm
  have HR := K.mk hit
  have IH := K.mk ih
  have hgood := good_cases v hb
  generalize hln : v.names.length = ln at *
  generalize hli : v.items.length = li at *
  have HLN := K.mk hln
  have HLI := K.mk hli
  obtain ⟨p1, pn, p3, p4⟩ := hc
  subst pn
  have p6 : (v.kind == 6) = false := by simpa using p1
  clear hnm hit h hb htx ih hs hln hli hgood
  go_enter Tryd.func85, Tryd.ntmps85
  go_wp2_with (go_at_call 118; go_must (refine (HC.o _).mono ?_); rintro e w1 ⟨rfl, hb'⟩; have HV := K.mk ((Blk.new _ _ _).below hb' (by simp)); have v0 := HV.o.cell 0 rfl; have v3 := HV.o.cell 3 rfl; have v4 := HV.o.cell 4 rfl; have HB := K.mk (below2 (below_a1 _ _) hb'); clear hb')
  clear HC
  go_loopg [3] 0 (fun g s3 wr => ∃ k : Nat, k ≤ 0 ∧ 0 - k ≤ g ∧ s3 = .int .i64 k ∧ K (allTo k (nameAt v.names) = true) ∧ K (Below w.heap.size w wr) ∧ K (Blk wr w.heap.size 37 [.int .i64 v.kind, .int .i64 v.num, .string v.text, .slice An 0 cn, .slice Ai li ci]))
  case atStart => exact ⟨0, Nat.zero_le _, Nat.le_refl _, rfl, ⟨allTo_zero _⟩, HB, HV⟩
  case round =>
    clear HB HV v0 v3 v4
    obtain ⟨k, hk', hg, rfl, HD, HB, HV⟩ := hrel
    have v3 := HV.o.cell 3 rfl
    have hsz := HV.o.lt
    rcases Nat.lt_or_ge k 0 with hlt | hge
    · exact absurd hlt (Nat.not_lt_zero k)
    · have hkk : 0 = k := by omega
      subst hkk
      have hns : namesS v.names = true := by unfold namesS; rw [HLN.o]; exact HD.o
      have HNS := K.mk hns
      clear hns hg HD
      go_wp2_with fail
      go_loopg [4] li (fun g s4 wr => ∃ k : Nat, k ≤ li ∧ li - k ≤ g ∧ s4 = .int .i64 k ∧ K ((v.items.take k).all formR = true) ∧ K (Below w.heap.size w wr) ∧ K (Blk wr w.heap.size 37 [.int .i64 v.kind, .int .i64 v.num, .string v.text, .slice An 0 cn, .slice Ai li ci]))
      case atStart => exact ⟨0, Nat.zero_le _, Nat.le_refl _, rfl, ⟨by simp⟩, HB, HV⟩
      case round =>
        clear HB HV hsz v3
        obtain ⟨k, hk', hg, rfl, HD, HB, HV⟩ := hrel
        have v4 := HV.o.cell 4 rfl
        have hsz := HV.o.lt
        rcases Nat.lt_or_ge k li with hlt | hge
        · skip
          obtain ⟨b, o, x, xcs, rfl, hS, hbb, hx, hRx, hcx⟩ := HR.o.at k (by rw [HLI.o]; exact hlt)
          have hcall := IH.o x (List.mem_of_getElem? hx) xcs S wr (rV.below hRx HB.o)
          have HX := K.mk hx
          obtain ⟨xAn, xcn, xA, xc, rfl, _⟩ := hRx.wide
          obtain ⟨c0, c1, c2, c3, c4⟩ := (hcx.below HB.o).five
          clear hx hcx
          cases hq : formR x with
          | false =>
            rw [hq] at hcall
            have HC := K.mk hcall
            have hall : v.items.all formR = false := by
              cases ha : v.items.all formR with
              | false => rfl
              | true => rw [List.all_eq_true] at ha; rw [ha x (List.mem_of_getElem? HX.o)] at hq; cases hq
            have HALL := K.mk hall
            clear hcall hq hall
            go_wp2_with (go_at_call 85; go_must (refine HC.o.mono ?_); rintro e w2 ⟨rfl, hb2⟩)
            go_ret
            exact ⟨ret_bool (by rw [HF.o, HALL.o]; simp), below2 HB.o hb2⟩
          | true =>
            rw [hq] at hcall
            have HC := K.mk hcall
            have HQ := K.mk hq
            clear hcall hq
            go_wp2_with (go_at_call 85; go_must (refine HC.o.mono ?_); rintro e w2 ⟨rfl, hb2⟩)
            go_roundg (li - (k + 1))
            case measure => omega
            case rel => exact ⟨k + 1, by omega, Nat.le_refl _, by go_num, ⟨by rw [all_take_snoc _ _ _ _ HX.o, HD.o, HQ.o]; rfl⟩, ⟨below2 HB.o hb2⟩, ⟨HV.o.below hb2 hsz⟩⟩
        · have hkk : li = k := by omega
          subst hkk
          have ha : v.items.all formR = true := by have h := HD.o; rw [← HLI.o, List.take_length] at h; exact h
          have HA := K.mk ha
          clear ha
          go_wp2_with fail
          go_ret
          exact ⟨ret_bool (by rw [HF.o, HNS.o, HA.o]; rfl), HB.o⟩

theorem ref_formed_calls : ∀ (v : JV) (cs : List Value) (S : Blocks) (w : World), RV w S v cs →
    Calls Tryd.prog 85 #[.agg cs.toArray] w fun e w' => e = .returned (.bool (formR v)) ∧ Below w.heap.size w w' := by
  intro v
  induction v using JV.ind with
  | h v ih =>
    intro cs S w h
    cases hb : baseS v with
    | false => exact ref_bad1 v cs S w h hb
    | true =>
      rcases ref_cases v hb with ⟨c, hs⟩ | ⟨c, hs⟩ | ⟨c, hs⟩ | ⟨c, hs⟩ | ⟨c, hs⟩ | ⟨c, hs⟩ | ⟨c, hs⟩
      · exact ref_bad2 v cs S w h hb hs (.inl c)
      · exact ref_bad2 v cs S w h hb hs (.inr (.inl c))
      · exact ref_bad2 v cs S w h hb hs (.inr (.inr (.inl c)))
      · exact ref_bad2 v cs S w h hb hs (.inr (.inr (.inr c)))
      all_goals cases htx : textS v.text
      · exact ref_bad3 v cs S w h hb htx (.inl c)
      · exact ref_loops1 v cs S w h hb htx c hs ih
      · exact ref_bad3 v cs S w h hb htx (.inr (.inl c))
      · exact ref_loops2 v cs S w h hb htx c hs ih
      · exact ref_bad3 v cs S w h hb htx (.inr (.inr c))
      · by_cases hd : v.names.length = v.items.length
        · exact ref_loops3 v cs S w h hb htx c hd ih
        · exact ref_bad4 v cs S w h hb htx c hd

set_option maxHeartbeats 4000000 in
theorem ref_Formed_calls (v : JV) (cs : List Value) (S : Blocks) (w : World) (h : RV w S v cs) :
    Calls Tryd.prog 54 #[.agg cs.toArray] w fun e w' => e = .returned (.bool (formS 6 v)) ∧ Below w.heap.size w w' := by
  have HC := K.mk (fun w' (hb : Below w.heap.size w w') => ref_Depth_calls v cs S w' (rV.below h hb))
  have HC2 := K.mk (fun w' (hb : Below w.heap.size w w') => ref_formed_calls v cs S w' (rV.below h hb))
  have HF := K.mk (formS_formR 6 v)
  obtain ⟨An, cn, Ai, ci, rfl, hnm, hit, hk, hn, ht⟩ := h.wide
  have hilen := hit.len_le
  have hnlen := hnm.len_le
  clear hnm hit
  by_cases hd : depthS 6 v ≤ 6
  · have hz : (depthS 6 v : Int) ≤ 6 := by omega
    have hf : formS 6 v = formR v := by rw [HF.o]; simp [hd]
    have HG := K.mk hf
    clear hd hf
    go_enter Tryd.func54, Tryd.ntmps54
    go_wp2_with (first | (go_at_call 84; go_must (refine (HC.o _ (below_a1 _ _)).mono ?_); rintro e w1 ⟨rfl, hb1⟩; have HV := K.mk ((Blk.new _ _ _).below hb1 (by simp)); obtain ⟨v0, v1, v2, v3, v4⟩ := HV.o.five; have HB := K.mk (below2 (below_a1 _ _) hb1); clear hb1) | (go_at_call 85; go_must (refine (HC2.o _ HB.o).mono ?_); rintro e w2 ⟨rfl, hb2⟩))
    go_ret
    exact ⟨ret_bool HG.o.symm, below2 HB.o hb2⟩
  · have hz : ¬ (depthS 6 v : Int) ≤ 6 := by omega
    have hf : formS 6 v = false := by rw [HF.o]; simp [hd]
    have HG := K.mk hf
    clear hd hf
    go_enter Tryd.func54, Tryd.ntmps54
    go_wp2_with (go_at_call 84; go_must (refine (HC.o _ (below_a1 _ _)).mono ?_); rintro e w1 ⟨rfl, hb1⟩; have HB := K.mk (below2 (below_a1 _ _) hb1); clear hb1)
    go_ret
    exact ⟨ret_bool HG.o.symm, HB.o⟩
end Go.Proofs.YtgcbkecpplhknaaDoor
