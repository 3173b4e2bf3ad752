/- Walks: the law JsonDeep. -/
import Derived.Test.YtjiokidindnolaaDoorJLawA


import Derived.WalkKit
import Derived.Deep.QuietTactic
import Derived.BigQuiet
import Derived.Outline
import Derived.Deep.DeepMust
import Derived.Deep.CutBlock
import Derived.Deep.DeepCutAuto
import Derived.Deep.RegionWith
import Derived.WalkSpells
import Derived.WalkLawsBesides
import Derived.Test.YtjiokidindnolaaDoorMu
import Derived.Test.YtjiokidindnolaaDoorProg
set_option linter.unusedVariables false
set_option linter.unusedSimpArgs false
namespace Go.Proofs.YtjiokidindnolaaDoor
open Go.RowKit Go.Mu

/-- The value is wrapped: a new row of one value, and the variable's five cells written. -/
theorem deep_step (g : Nat) (w wr : World) (T : TypeId) (v : JV) (cs : List Value) (hB : Below g w wr) (hR : RV wr (fun b => b ≠ g) v cs) (hV : Blk wr g T cs) (hl : cs.length = 5) (u0 u1 u2 u3 u4 : Value) :
    ∀ W, W = ((((((wr.alloc (.cells cs.toArray T)).setCell ⟨g, 0, none⟩ u0).setCell ⟨g, 1, none⟩ u1).setCell ⟨g, 2, none⟩ u2).setCell ⟨g, 3, none⟩ u3).setCell ⟨g, 4, none⟩ u4) →
      Below g w W ∧ RV W (fun b => b ≠ g) ⟨5, 0, ByteArray.empty, [], [v]⟩ [.int .i64 5, .int .i64 0, .string ByteArray.empty, .slice none 0 0, .slice (some ⟨wr.heap.size, 0, none⟩) 1 1] ∧ Blk W g T [u0, u1, u2, u3, u4] := by
  intro W hW
  have hg := hV.lt
  have hsz : W.heap.size = wr.heap.size + 1 := by rw [hW]; simp [World.setCell]
  have hfar : ∀ b, b ≠ g → W.heap[b]? = (wr.alloc (.cells cs.toArray T)).heap[b]? := fun b hb => by
    rw [hW, Below.heap_setCell _ ⟨g, 4, none⟩ _ _ hb, Below.heap_setCell _ ⟨g, 3, none⟩ _ _ hb, Below.heap_setCell _ ⟨g, 2, none⟩ _ _ hb, Below.heap_setCell _ ⟨g, 1, none⟩ _ _ hb, Below.heap_setCell _ ⟨g, 0, none⟩ _ _ hb]
  have hkeep : ∀ b, b ≠ g → b < wr.heap.size → W.heap[b]? = wr.heap[b]? ∧ b ≠ g := fun b hb hlt => ⟨(hfar b hb).trans (Below.heap_alloc _ _ _ hlt), hb⟩
  refine ⟨?_, ?_, ?_⟩
  · rw [hW]
    exact ((((((hB.alloc (Nat.le_of_lt hg) _).setCell (p := ⟨g, 0, none⟩) (Nat.le_refl _) u0).setCell (p := ⟨g, 1, none⟩) (Nat.le_refl _) u1).setCell (p := ⟨g, 2, none⟩) (Nat.le_refl _) u2).setCell (p := ⟨g, 3, none⟩) (Nat.le_refl _) u3).setCell (p := ⟨g, 4, none⟩) (Nat.le_refl _) u4)
  · refine RV.close (vn := .slice none 0 0) (vi := .slice (some ⟨wr.heap.size, 0, none⟩) 1 1) ⟨none, 0, rfl, Nat.le_refl _, Nat.zero_le _, fun h => absurd rfl h⟩ ⟨some ⟨wr.heap.size, 0, none⟩, 1, rfl, Nat.le_refl _, by decide, fun _ => ⟨wr.heap.size, 0, rfl, by show wr.heap.size ≠ g; omega, by omega, ?_⟩⟩ (show IntKind.i64.min ≤ (5 : Int) ∧ (5 : Int) ≤ IntKind.i64.max from ⟨by decide, by decide⟩) (show IntKind.i64.min ≤ (0 : Int) ∧ (0 : Int) ≤ IntKind.i64.max from ⟨by decide, by decide⟩) (show ByteArray.empty.size ≤ strMax by decide)
    intro j x hx
    cases j with
    | succ j => simp at hx
    | zero =>
      simp at hx
      subst hx
      refine ⟨cs, hR.step hkeep, fun i u hu => ?_⟩
      have hb : Blk W wr.heap.size T cs := (hfar wr.heap.size (by omega)).trans (Blk.new wr T cs)
      simpa using hb.cell i hu
  · have h5 := (((((hV.alloc (.cells cs.toArray T)).set 0 u0).set 1 u1).set 2 u2).set 3 u3).set 4 u4
    rw [← hW] at h5
    have he : ((((cs.set 0 u0).set 1 u1).set 2 u2).set 3 u3).set 4 u4 = [u0, u1, u2, u3, u4] := by
      rcases cs with _ | ⟨c0, _ | ⟨c1, _ | ⟨c2, _ | ⟨c3, _ | ⟨c4, _ | ⟨c5, l⟩⟩⟩⟩⟩⟩ <;> simp at hl
      rfl
    rw [he] at h5
    exact h5

set_option maxHeartbeats 4000000 in
theorem JsonDeep_calls (v : JV) (d : Int) (hd0 : 0 ≤ d) (hd1 : d ≤ 255) (cs : List Value) (S : Blocks) (w : World) (h : RV w S v cs) (hT : Tabs w) :
    Calls Tryd.prog 4 #[.agg cs.toArray, .int .u8 d] w fun e w' => e = .returned (.bool true) ∧ Below w.heap.size w w' := by
  have HW := K.mk (fun w' (hb : Below w.heap.size w w') => awake_calls w' (hT.below hb))
  have HE := K.mk (fun w' (hb : Below w.heap.size w w') => Few_calls v cs S w' (rV.below h hb))
  have HR := K.mk h
  obtain ⟨An, cn, Ai, ci, rfl, hnm, hit, hk, hn, ht⟩ := h.wide
  have hilen := hit.len_le
  have hnlen := hnm.len_le
  clear hnm hit hT h
  cases hq : fewS v
  all_goals
    simp only [hq] at HE
    clear hq
    go_enter Tryd.func4, Tryd.ntmps4
    go_wp2_with (first
      | (go_at_call 7; refine (HW.o _ (below_a1 _ _)).mono ?_; rintro e w1 ⟨rfl, hb1⟩; have HV := K.mk ((Blk.new _ _ _).below hb1 (by simp)); obtain ⟨v0, v1, v2, v3, v4⟩ := HV.o.five; have HB := K.mk (below2 (below_a1 _ _) hb1); clear hb1)
      | (go_at_call 8; go_must (refine (HE.o _ HB.o).mono ?_); rintro e w2 ⟨rfl, hb2⟩; have HV2 := K.mk (HV.o.below hb2 HV.o.lt); obtain ⟨v0, v1, v2, v3, v4⟩ := HV2.o.five; have HB2 := K.mk (below2 HB.o hb2); clear hb2)
      | (go_at_call 7; go_must (refine (HW.o _ HB2.o).mono ?_); rintro e w3 ⟨rfl, hb3⟩; have HB3 := K.mk (below2 HB2.o hb3)))
  · go_ret
    exact ⟨rfl, HB3.o⟩
  · obtain ⟨n, hn9, hnd⟩ : ∃ n : Nat, n < 9 ∧ d % 9 = n := ⟨(d % 9).toNat, by omega, by omega⟩
    go_loopg [5] n (fun g s5 wr => ∃ k : Nat, k ≤ n ∧ n - k ≤ g ∧ s5 = .int .i64 k ∧ K (Below w.heap.size w wr) ∧
      ∃ (v' : JV) (Bn : Option Addr) (dn : Nat) (Bi : Option Addr) (di : Nat), K (RV wr (fun b => b ≠ w.heap.size) v' [.int .i64 v'.kind, .int .i64 v'.num, .string v'.text, .slice Bn v'.names.length dn, .slice Bi v'.items.length di]) ∧
        K (Blk wr w.heap.size 25 [.int .i64 v'.kind, .int .i64 v'.num, .string v'.text, .slice Bn v'.names.length dn, .slice Bi v'.items.length di]))
    case atStart => exact ⟨0, Nat.zero_le _, Nat.le_refl _, rfl, HB2, v, An, cn, Ai, ci, ⟨rV.mono (rV.mono (rV.frame (rV.bound HR.o) (fun b hb => HB2.o.block b hb.2)) (fun b hb => hb.2)) (fun b (hb : b < w.heap.size) => by show b ≠ w.heap.size; omega)⟩, HV2⟩
    case round =>
      clear HV HB HB2 HV2 v0 v1 v2 v3 v4
      obtain ⟨k, hk', hg, rfl, HB, v', Bn, dn, Bi, di, HR', HV⟩ := hrel
      have e0 := fun o => (HV.o.alloc o).cell 0 rfl
      have f0 := fun o => (HV.o.alloc o).frozen 0
      have e1 := fun o u0 => ((HV.o.alloc o).set 0 u0).cell 1 rfl
      have f1 := fun o u0 => ((HV.o.alloc o).set 0 u0).frozen 1
      have e2 := fun o u0 u1 => (((HV.o.alloc o).set 0 u0).set 1 u1).cell 2 rfl
      have f2 := fun o u0 u1 => (((HV.o.alloc o).set 0 u0).set 1 u1).frozen 2
      have e3 := fun o u0 u1 u2 => ((((HV.o.alloc o).set 0 u0).set 1 u1).set 2 u2).cell 3 rfl
      have f3 := fun o u0 u1 u2 => ((((HV.o.alloc o).set 0 u0).set 1 u1).set 2 u2).frozen 3
      have e4 := fun o u0 u1 u2 u3 => (((((HV.o.alloc o).set 0 u0).set 1 u1).set 2 u2).set 3 u3).cell 4 rfl
      have f4 := fun o u0 u1 u2 u3 => (((((HV.o.alloc o).set 0 u0).set 1 u1).set 2 u2).set 3 u3).frozen 4
      obtain ⟨v0, v1, v2, v3, v4⟩ := HV.o.five
      rcases Nat.lt_or_ge k n with hlt | hge
      · have hlt' : (k : Int) < (n : Int) := by omega
        have HS := K.mk (deep_step w.heap.size w wr 25 v' _ HB.o HR'.o HV.o rfl (.int .i64 5) (.int .i64 0) (.string ByteArray.empty) (.slice none 0 0) (.slice (some ⟨wr.heap.size, 0, none⟩) 1 1) _ rfl)
        go_wp2_with fail
        go_roundg (n - (k + 1))
        case measure => omega
        case rel => exact ⟨k + 1, by omega, Nat.le_refl _, by go_num, ⟨HS.o.1⟩, ⟨5, 0, ByteArray.empty, [], [v']⟩, none, 0, some ⟨wr.heap.size, 0, none⟩, 1, ⟨HS.o.2.1⟩, ⟨HS.o.2.2⟩⟩
      · have hge' : ¬ (k : Int) < (n : Int) := by omega
        have HC := K.mk (fun w' (hb : Below wr.heap.size wr w') => json_Depth_calls v' _ _ w' (rV.below HR'.o hb))
        have HC2 := K.mk (fun w' (hb : Below wr.heap.size wr w') => ref_Depth_calls v' _ _ w' (rV.below HR'.o hb))
        generalize depthS 6 v' = q at *
        have g0 : ∀ p : BW wr, p.wd.cell? ⟨w.heap.size, 0, none⟩ = some (.int .i64 v'.kind) := fun p => (HV.o.below p.hb HV.o.lt).cell 0 rfl
        have g1 : ∀ p : BW wr, p.wd.cell? ⟨w.heap.size, 1, none⟩ = some (.int .i64 v'.num) := fun p => (HV.o.below p.hb HV.o.lt).cell 1 rfl
        have g2 : ∀ p : BW wr, p.wd.cell? ⟨w.heap.size, 2, none⟩ = some (.string v'.text) := fun p => (HV.o.below p.hb HV.o.lt).cell 2 rfl
        have g3 : ∀ p : BW wr, p.wd.cell? ⟨w.heap.size, 3, none⟩ = some (.slice Bn v'.names.length dn) := fun p => (HV.o.below p.hb HV.o.lt).cell 3 rfl
        have g4 : ∀ p : BW wr, p.wd.cell? ⟨w.heap.size, 4, none⟩ = some (.slice Bi v'.items.length di) := fun p => (HV.o.below p.hb HV.o.lt).cell 4 rfl
        go_wp2_with fail
        refine wp_region_below (by kernel_rfl) (by kernel_rfl) ?_
        repeat (go_big_quiet_step (first | (go_at_call 11; exact bw_call _ (fun W hW => HC.o W hW)) | (go_at_call 12; exact bw_call _ (fun W hW => HC2.o W hW))))
        refine wpQuiet_nil ?_
        intro _ hw'
        obtain ⟨⟨wq, hbq⟩, hw''⟩ := hw'
        subst hw''
        go_wp2_with fail
        go_ret
        exact ⟨ret_bool (by simp), below2 HB.o hbq⟩
end Go.Proofs.YtjiokidindnolaaDoor
