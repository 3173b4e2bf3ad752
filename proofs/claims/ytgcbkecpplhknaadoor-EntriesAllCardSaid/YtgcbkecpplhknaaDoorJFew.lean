/- Walks: Nodes, Few of the reference. -/
import Derived.Test.YtgcbkecpplhknaaDoorJDeep


import Derived.WalkKit
import Derived.Deep.QuietTactic
import Derived.BigQuiet
import Derived.Outline
import Derived.Deep.DeepMust
import Derived.Deep.CutBlock
import Derived.Deep.DeepCutAuto
import Derived.Deep.RegionWith
import Derived.WalkSpells
import Derived.WalkLawsBesides
import Derived.Test.YtgcbkecpplhknaaDoorMu
import Derived.Test.YtgcbkecpplhknaaDoorProg
set_option linter.unusedVariables false
set_option linter.unusedSimpArgs false
namespace Go.Proofs.YtgcbkecpplhknaaDoor
open Go.RowKit Go.Mu

set_option maxHeartbeats 1000000 in
theorem ref_Depth_calls (v : JV) (cs : List Value) (S : Blocks) (w : World) (h : RV w S v cs) :
    Calls Tryd.prog 84 #[.agg cs.toArray] w fun e w' => e = .returned (.int .i64 (depthS 6 v)) ∧ Below w.heap.size w w' := by
  have hc := fun W hW => ref_depth_calls 6 v cs S W (by omega) (rV.below h hW)
  obtain ⟨An, cn, Ai, ci, rfl, hnm, hit, hk, hn, ht⟩ := h.wide
  have hilen := hit.len_le
  have hnlen := hnm.len_le
  go_enter Tryd.func84, Tryd.ntmps84
  go_wp2_with (go_at_call 117; go_must (refine (hc _ ((Below.refl _ _).alloc (Nat.le_refl _) _)).mono ?_); rintro e w' ⟨rfl, hb'⟩)
  go_ret
  exact ⟨rfl, below2 ((Below.refl _ _).alloc (Nat.le_refl _) _) hb'⟩

set_option maxHeartbeats 1000000 in
theorem nodes_calls (m : Nat) : ∀ (v : JV) (cs : List Value) (S : Blocks) (w : World) (hm : m < 100) (h : RV w S v cs),
    Calls Tryd.prog 76 #[.agg cs.toArray, .int .i64 (m : Nat)] w fun e w' => e = .returned (.int .i64 (nodesS m v)) ∧ Below w.heap.size w w' := by
  induction m with
  | zero =>
    intro v cs S w hm h
    obtain ⟨An, cn, Ai, ci, rfl, hnm, hit, hk, hn, ht⟩ := h.wide
    have hilen := hit.len_le
    have hnlen := hnm.len_le
    go_enter Tryd.func76, Tryd.ntmps76
    go_wp2_with fail
    all_goals (go_ret; exact ⟨rfl, (Below.refl _ _).alloc (Nat.le_refl _) _⟩)
  | succ m ih =>
    intro v cs S w hm h
    obtain ⟨An, cn, Ai, ci, rfl, hnm, hit, hk, hn, ht⟩ := h.wide
    have hilen := hit.len_le
    have hnlen := hnm.len_le
    have hs : nodesS (m + 1) v = min 1001 (1 + sumN (nodesS m) v.items) := rfl
    have HS := K.mk hs
    have HR := K.mk hit
    have IH := K.mk ih
    have m1 : ((m : Int) + 1 == 0) = false := by simp; omega
    clear hit ih h hnm hs
    go_enter Tryd.func76, Tryd.ntmps76
    go_wp2_with fail
    go_loopg [5, 6] v.items.length (fun g s5 s6 wr => ∃ k n : Nat, k ≤ v.items.length ∧ v.items.length - k ≤ g ∧ s6 = .int .i64 k ∧ s5 = .int .i64 n ∧ n ≤ 2001 ∧ K (n = 1 + sumN (nodesS m) (v.items.take k)) ∧ K (Below w.heap.size w wr) ∧ K (Blk wr w.heap.size 37 [.int .i64 v.kind, .int .i64 v.num, .string v.text, .slice An v.names.length cn, .slice Ai v.items.length ci]))
    case atStart => exact ⟨0, 1, Nat.zero_le _, Nat.le_refl _, rfl, rfl, by omega, ⟨by simp [sumN]⟩, ⟨(Below.refl _ _).alloc (Nat.le_refl _) _⟩, ⟨Blk.new _ _ _⟩⟩
    case round =>
      obtain ⟨k, n, hk', hg, rfl, rfl, hn2, HD, HB, HV⟩ := hrel
      by_cases hlt : k < v.items.length
      · by_cases hn1 : n ≤ 1000
        · obtain ⟨b, o, x, xcs, rfl, hS, hb, hx, hRx, hcx⟩ := HR.o.at k hlt
          have hnext := sumN_snoc (nodesS m) v.items k x hx
          have HX := K.mk hnext
          clear hx hnext
          have hcall := fun W hW => IH.o x xcs S W (by omega) (rV.below hRx hW)
          have hqle := nodesS_le m x
          obtain ⟨xAn, xcn, xA, xc, rfl, _⟩ := hRx.wide
          obtain ⟨c0, c1, c2, c3, c4⟩ := (hcx.below HB.o).five
          have v4 := HV.o.cell 4 rfl
          have hsz := HV.o.lt
          generalize hq : nodesS m x = q at hcall hqle
          have HQ := K.mk hq
          have HC := K.mk hcall
          clear hcall hcx hq
          go_wp2_with (go_at_call 76; go_must (refine (HC.o _ HB.o).mono ?_); rintro e w' ⟨rfl, hb'⟩)
          go_roundg (v.items.length - (k + 1))
          case measure => omega
          case rel => exact ⟨k + 1, n + q, by omega, Nat.le_refl _, by go_num, by go_num, by omega, ⟨by rw [HX.o, HQ.o, HD.o]; omega⟩, ⟨below2 HB.o hb'⟩, ⟨HV.o.below (below2 (w := wr) (Below.refl _ _) hb') hsz⟩⟩
        · have v4 := HV.o.cell 4 rfl
          have hn1z : ¬ (n : Int) ≤ 1000 := by omega
          have h1 := sumN_take_le (nodesS m) v.items k
          have H1 := K.mk h1
          clear h1
          go_wp2_with fail
          all_goals
            go_ret
            refine ⟨ret_int ?_, HB.o⟩
            have h1 := H1.o; have h2 := HD.o; have h3 := HS.o; omega
      · have hkk : k = v.items.length := by omega
        subst hkk
        rw [List.take_length] at HD
        have v4 := HV.o.cell 4 rfl
        go_wp2_with fail
        all_goals
          go_ret
          refine ⟨ret_int ?_, HB.o⟩
          have h2 := HD.o; have h3 := HS.o; omega

theorem Nodes_calls (v : JV) (cs : List Value) (S : Blocks) (w : World) (h : RV w S v cs) :
    Calls Tryd.prog 48 #[.agg cs.toArray] w fun e w' => e = .returned (.int .i64 (nodesS 40 v)) ∧ Below w.heap.size w w' := by
  have hc := fun W hW => nodes_calls 40 v cs S W (by omega) (rV.below h hW)
  obtain ⟨An, cn, Ai, ci, rfl, hnm, hit, hk, hn, ht⟩ := h.wide
  have hilen := hit.len_le
  have hnlen := hnm.len_le
  go_enter Tryd.func48, Tryd.ntmps48
  go_wp2_with (go_at_call 76; go_must (refine (hc _ ((Below.refl _ _).alloc (Nat.le_refl _) _)).mono ?_); rintro e w' ⟨rfl, hb'⟩)
  go_ret
  exact ⟨rfl, below2 ((Below.refl _ _).alloc (Nat.le_refl _) _) hb'⟩

set_option maxHeartbeats 2000000 in
theorem Few_calls : ∀ (v : JV) (cs : List Value) (S : Blocks) (w : World) (h : RV w S v cs),
    Calls Tryd.prog 17 #[.agg cs.toArray] w fun e w' => e = .returned (.bool (fewS v)) ∧ Below w.heap.size w w' := by
  intro v
  induction v using JV.ind with
  | h v ih =>
  intro cs S w h
  have hN := fun W hW => Nodes_calls v cs S W (rV.below h hW)
  obtain ⟨An, cn, Ai, ci, rfl, hnm, hit, hk, hn, ht⟩ := h.wide
  have hilen := hit.len_le
  have hnlen := hnm.len_le
  have HS := K.mk (fewS_eq v)
  have HR := K.mk hit
  have HN := K.mk hnm
  have IH := K.mk ih
  have HC := K.mk hN
  clear hit ih h hnm hN
  generalize hq : nodesS 40 v = q at HC HS
  clear hq
  by_cases h1 : 300 < q
  · have h1z : (300 : Int) < (q : Int) := by omega
    have hf : K (fewS v = false) := ⟨by rw [HS.o]; simp; omega⟩
    clear HS
    go_enter Tryd.func17, Tryd.ntmps17
    go_wp2_with (go_at_call 48; go_must (refine (HC.o _ ((Below.refl _ _).alloc (Nat.le_refl _) _)).mono ?_); rintro e w' ⟨rfl, hb'⟩)
    go_ret
    exact ⟨by rw [hf.o]; rfl, below2 ((Below.refl _ _).alloc (Nat.le_refl _) _) hb'⟩
  · have h1z : ¬ (300 : Int) < (q : Int) := by omega
    have hB0 := (Below.refl w.heap.size w).alloc (Nat.le_refl _) (.cells #[.int .i64 v.kind, .int .i64 v.num, .string v.text, .slice An v.names.length cn, .slice Ai v.items.length ci] 37)
    have HB0 := K.mk hB0
    clear hB0
    by_cases h2 : 100 < v.names.length
    · have h2z : (100 : Int) < (v.names.length : Int) := by omega
      have hf : K (fewS v = false) := ⟨by rw [HS.o]; simp; omega⟩
      clear HS
      go_enter Tryd.func17, Tryd.ntmps17
      go_wp2_with (go_at_call 48; go_must (refine (HC.o _ HB0.o).mono ?_); rintro e w1 ⟨rfl, hb'⟩; have HV := K.mk ((Blk.new w 37 _).below hb' (by simp)); have HB1 := K.mk (below2 HB0.o hb'); have v3 := HV.o.cell 3 rfl; clear hb')
      go_ret
      exact ⟨by rw [hf.o]; rfl, HB1.o⟩
    · have h2z : ¬ (100 : Int) < (v.names.length : Int) := by omega
      by_cases h3 : 1000 < v.text.size
      · have h3z : (1000 : Int) < (v.text.size : Int) := by omega
        have hf : K (fewS v = false) := ⟨by rw [HS.o]; simp; omega⟩
        clear HS
        go_enter Tryd.func17, Tryd.ntmps17
        go_wp2_with (go_at_call 48; go_must (refine (HC.o _ HB0.o).mono ?_); rintro e w1 ⟨rfl, hb'⟩; have HV := K.mk ((Blk.new w 37 _).below hb' (by simp)); have HB1 := K.mk (below2 HB0.o hb'); have v3 := HV.o.cell 3 rfl; have v2 := HV.o.cell 2 rfl; clear hb')
        go_ret
        exact ⟨by rw [hf.o]; rfl, HB1.o⟩
      · have h3z : ¬ (1000 : Int) < (v.text.size : Int) := by omega
        have hS2 : fewS v = (v.names.all (fun s => decide (s.size ≤ 1000)) && v.items.all fewS) := by
          rw [HS.o]; simp [show q ≤ 300 by omega, show v.names.length ≤ 100 by omega, show v.text.size ≤ 1000 by omega]
        have HS2 := K.mk hS2
        clear HS hS2 ht
        go_enter Tryd.func17, Tryd.ntmps17
        go_wp2_with (go_at_call 48; go_must (refine (HC.o _ HB0.o).mono ?_); rintro e w1 ⟨rfl, hb'⟩; have HV := K.mk ((Blk.new w 37 _).below hb' (by simp)); have HB1 := K.mk (below2 HB0.o hb'); have v3 := HV.o.cell 3 rfl; have v2 := HV.o.cell 2 rfl; clear hb')
        clear v3 v2
        go_loopg [3] v.names.length (fun g s3 wr => ∃ k : Nat, k ≤ v.names.length ∧ v.names.length - k ≤ g ∧ s3 = .int .i64 k ∧ K ((v.names.take k).all (fun s => decide (s.size ≤ 1000)) = true) ∧ K (Below w.heap.size w wr) ∧ K (Blk wr w.heap.size 37 [.int .i64 v.kind, .int .i64 v.num, .string v.text, .slice An v.names.length cn, .slice Ai v.items.length ci]))
        case atStart => exact ⟨0, Nat.zero_le _, Nat.le_refl _, rfl, ⟨by simp⟩, HB1, HV⟩
        case round =>
          clear HV HB1
          obtain ⟨k, hk', hg, rfl, HD, HB, HV⟩ := hrel
          have v3 := HV.o.cell 3 rfl
          by_cases hlt : k < v.names.length
          · obtain ⟨b, o, x, xcs, rfl, hS, hb, hx, ⟨rfl, hxs⟩, hcx⟩ := HN.o.at1 k hlt
            have c0 := (hcx.below HB.o).one
            have hsn := all_take_snoc (fun s : ByteArray => decide (s.size ≤ 1000)) v.names k x hx
            have HX := K.mk hsn
            have HF := K.mk (all_false_of (fun s : ByteArray => decide (s.size ≤ 1000)) v.names k x hx)
            clear hx hcx hsn
            by_cases hl : 1000 < x.size
            · have hlz : (1000 : Int) < (x.size : Int) := by omega
              go_wp2_with fail
              go_ret
              exact ⟨by rw [HS2.o, HF.o (by simp; omega)]; rfl, HB.o⟩
            · have hlz : ¬ (1000 : Int) < (x.size : Int) := by omega
              go_wp2_with fail
              go_roundg (v.names.length - (k + 1))
              case measure => omega
              case rel => exact ⟨k + 1, by omega, Nat.le_refl _, by go_num, ⟨by rw [HX.o, HD.o]; simp; omega⟩, HB, HV⟩
          · have hkk : k = v.names.length := by omega
            subst hkk
            rw [List.take_length] at HD
            have hS3 : fewS v = v.items.all fewS := by rw [HS2.o, HD.o]; rfl
            have HS3 := K.mk hS3
            clear hS3
            go_wp2_with fail
            clear v3
            go_loopg [4] v.items.length (fun g s4 wr => ∃ k : Nat, k ≤ v.items.length ∧ v.items.length - k ≤ g ∧ s4 = .int .i64 k ∧ K ((v.items.take k).all fewS = true) ∧ K (Below w.heap.size w wr) ∧ K (Blk wr w.heap.size 37 [.int .i64 v.kind, .int .i64 v.num, .string v.text, .slice An v.names.length cn, .slice Ai v.items.length ci]))
            case atStart => exact ⟨0, Nat.zero_le _, Nat.le_refl _, rfl, ⟨by simp⟩, HB, HV⟩
            case round =>
              clear HV HB
              obtain ⟨k, hk2, hg2, rfl, HD2, HB, HV⟩ := hrel
              have v4 := HV.o.cell 4 rfl
              by_cases hlt2 : k < v.items.length
              · obtain ⟨b, o, x, xcs, rfl, hS, hb, hx, hRx, hcx⟩ := HR.o.at k hlt2
                have HX := K.mk (all_take_snoc fewS v.items k x hx)
                have HF := K.mk (all_false_of fewS v.items k x hx)
                have hcall := fun W hW => IH.o x (List.mem_of_getElem? hx) xcs S W (rV.below hRx hW)
                obtain ⟨xAn, xcn, xA, xc, rfl, _⟩ := hRx.wide
                obtain ⟨c0, c1, c2, c3, c4⟩ := (hcx.below HB.o).five
                have HC2 := K.mk hcall
                have hsz := HV.o.lt
                clear hx hcx hcall
                cases hq2 : fewS x with
                | false =>
                  have HF2 := K.mk (HF.o hq2)
                  rw [hq2] at HC2
                  clear hq2
                  go_wp2_with (go_at_call 17; go_must (refine (HC2.o _ HB.o).mono ?_); rintro e w2 ⟨rfl, hb2⟩)
                  go_ret
                  exact ⟨by rw [HS3.o, HF2.o]; rfl, below2 HB.o hb2⟩
                | true =>
                  rw [HD2.o, hq2] at HX
                  rw [hq2] at HC2
                  clear hq2
                  go_wp2_with (go_at_call 17; go_must (refine (HC2.o _ HB.o).mono ?_); rintro e w2 ⟨rfl, hb2⟩)
                  go_roundg (v.items.length - (k + 1))
                  case measure => omega
                  case rel => exact ⟨k + 1, by omega, Nat.le_refl _, by go_num, ⟨by rw [HX.o]; rfl⟩, ⟨below2 HB.o hb2⟩, ⟨HV.o.below (below2 (w := wr) (Below.refl _ _) hb2) hsz⟩⟩
              · have hkk : k = v.items.length := by omega
                subst hkk
                rw [List.take_length] at HD2
                go_wp2_with fail
                go_ret
                exact ⟨by rw [HS3.o, HD2.o]; rfl, HB.o⟩

end Go.Proofs.YtgcbkecpplhknaaDoor
