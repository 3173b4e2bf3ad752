/- Walks: formed of the program, its ways. -/
import Derived.Test.YtgcbkecpplhknaaDoorJForm


import Derived.WalkKit
import Derived.Deep.QuietTactic
import Derived.BigQuiet
import Derived.Outline
import Derived.Deep.DeepMust
import Derived.Deep.CutBlock
import Derived.Deep.DeepCutAuto
import Derived.Deep.RegionWith
import Derived.WalkSpells
import Derived.WalkLawsBesides
import Derived.Test.YtgcbkecpplhknaaDoorMu
import Derived.Test.YtgcbkecpplhknaaDoorProg
set_option linter.unusedVariables false
set_option linter.unusedSimpArgs false
namespace Go.Proofs.YtgcbkecpplhknaaDoor
open Go.RowKit Go.Mu

theorem good_cases (v : JV) (h : baseS v = true) :
    (0 ≤ v.kind ∧ v.kind ≤ 6 ∧ v.kind < 5 ∧ (v.kind != 3) = false ∧ (v.kind != 4) = true ∧ v.text.toList.isEmpty = true) ∨
    (0 ≤ v.kind ∧ v.kind ≤ 6 ∧ v.kind < 5 ∧ (v.kind != 3) = true ∧ (v.num != 0) = false ∧ (v.kind != 4) = false) ∨
    (0 ≤ v.kind ∧ v.kind ≤ 6 ∧ (v.kind != 3) = true ∧ (v.num != 0) = false ∧ (v.kind != 4) = true ∧ v.text.toList.isEmpty = true) := by
  rcases base_cases v with ⟨_, hq⟩ | ⟨_, _, hq⟩ | ⟨_, _, _, _, hq⟩ | ⟨_, _, _, _, _, hq⟩ | ⟨_, _, _, _, _, _, hq⟩ | ⟨q1, q2, q3, q4, q5, hq⟩ | ⟨q1, q2, q3, q4, q5, hq⟩ | ⟨q1, q2, q3, q4, q5, q6, hq⟩
  all_goals first | (rw [h] at hq; cases hq; done) | skip
  · left; exact ⟨q1, q2, by simp at q3; omega, q3, q4, q5⟩
  · right; left; exact ⟨q1, q2, by simp at q5; omega, q3, q4, q5⟩
  · right; right; exact ⟨q1, q2, q3, q4, q5, q6⟩

set_option maxRecDepth 100000 in
set_option maxHeartbeats 4000000 in
theorem formed_bad1 (m : Nat) (v : JV) (cs : List Value) (S : Blocks) (w : World) (hm : m < 100) (h : RV w S v cs) (hb : baseS v = false) :
    Calls Tryd.prog 52 #[.agg cs.toArray, .int .i64 (m + 1 : Nat)] w fun e w' => e = .returned (.bool (formS (m + 1) v)) ∧ Below w.heap.size w w' := by
  obtain ⟨An, cn, Ai, ci, rfl, hnm, hit, hk, hn, ht⟩ := h.wide
  have hilen := hit.len_le
  have hnlen := hnm.len_le
  have m1 : ((m : Int) + 1 == 0) = false := beq_ff (by omega)
  have HF := K.mk (formS_zero_bad m v hb)
  have hbase := base_cases v
  clear hnm hit h
  rcases hbase with ⟨q1, hq⟩ | ⟨q1, q2, hq⟩ | ⟨q1, q2, q3, q4, hq⟩ | ⟨q1, q2, q3, q4, q5, hq⟩ | ⟨q1, q2, q3, q4, q5, q6, hq⟩ | ⟨q1, q2, q3, q4, q5, hq⟩ | ⟨q1, q2, q3, q4, q5, hq⟩ | ⟨q1, q2, q3, q4, q5, q6, hq⟩
  all_goals first | (rw [hb] at hq; cases hq; done) | skip
  all_goals
    clear hq hb
    go_enter Tryd.func52, Tryd.ntmps52
    go_wp2_with fail
    go_ret
    exact ⟨by rw [HF.o]; rfl, below_a2 _ _ _⟩

set_option maxRecDepth 100000 in
set_option maxHeartbeats 4000000 in
theorem formed_bad2 (m : Nat) (v : JV) (cs : List Value) (S : Blocks) (w : World) (hm : m < 100) (h : RV w S v cs) (hT : Tabs w) (hb : baseS v = true) (htx : textS v.text = false) :
    Calls Tryd.prog 52 #[.agg cs.toArray, .int .i64 (m + 1 : Nat)] w fun e w' => e = .returned (.bool (formS (m + 1) v)) ∧ Below w.heap.size w w' := by
  obtain ⟨An, cn, Ai, ci, rfl, hnm, hit, hk, hn, ht⟩ := h.wide
  have hilen := hit.len_le
  have hnlen := hnm.len_le
  have m1 : ((m : Int) + 1 == 0) = false := beq_ff (by omega)
  have HF := K.mk (formS_text_bad m v htx)
  have HC := K.mk (json_text_calls v.text _ (hT.below (below_a2 w (.cells #[.int .i64 v.kind, .int .i64 v.num, .string v.text, .slice An v.names.length cn, .slice Ai v.items.length ci] 37) (.cells #[.int .i64 (m + 1 : Nat)] 3))))
  rw [htx] at HC
  have hgood := good_cases v hb
  clear hnm hit h hT htx hb
  rcases hgood with ⟨q1, q2, q3, q4, q5, q6⟩ | ⟨q1, q2, q3, q4, q5, q6⟩ | ⟨q1, q2, q3, q4, q5, q6⟩
  all_goals
    go_enter Tryd.func52, Tryd.ntmps52
    go_wp2_with (go_at_call 79; go_must (refine HC.o.mono ?_); rintro e w1 ⟨rfl, hb'⟩)
    go_ret
    exact ⟨by rw [HF.o]; rfl, below2 (below_a2 _ _ _) hb'⟩

set_option maxRecDepth 100000 in
set_option maxHeartbeats 8000000 in
theorem formed_small (m : Nat) (v : JV) (cs : List Value) (S : Blocks) (w : World) (hm : m < 100) (h : RV w S v cs) (hT : Tabs w) (hb : baseS v = true) (htx : textS v.text = true) (h5 : v.kind < 5) :
    Calls Tryd.prog 52 #[.agg cs.toArray, .int .i64 (m + 1 : Nat)] w fun e w' => e = .returned (.bool (formS (m + 1) v)) ∧ Below w.heap.size w w' := by
  obtain ⟨An, cn, Ai, ci, rfl, hnm, hit, hk, hn, ht⟩ := h.wide
  have hilen := hit.len_le
  have hnlen := hnm.len_le
  have m1 : ((m : Int) + 1 == 0) = false := beq_ff (by omega)
  have HF := K.mk (formS_small m v hb htx h5)
  have HC := K.mk (json_text_calls v.text _ (hT.below (below_a2 w (.cells #[.int .i64 v.kind, .int .i64 v.num, .string v.text, .slice An v.names.length cn, .slice Ai v.items.length ci] 37) (.cells #[.int .i64 (m + 1 : Nat)] 3))))
  rw [htx] at HC
  have hgood := good_cases v hb
  clear hnm hit h hT htx hb
  cases hi : ((v.items.length : Int) == 0) with
  | false =>
    have hf : formS (m + 1) v = false := by rw [HF.o]; simp at hi ⊢; intro hh; exact absurd hh hi
    have HG := K.mk hf
    clear hf
    rcases hgood with ⟨q1, q2, q3, q4, q5, q6⟩ | ⟨q1, q2, q3, q4, q5, q6⟩ | ⟨q1, q2, q3, q4, q5, q6⟩
    all_goals
      go_enter Tryd.func52, Tryd.ntmps52
      go_wp2_with (go_at_call 79; go_must (refine HC.o.mono ?_); rintro e w1 ⟨rfl, hb'⟩; have HV := K.mk ((Blk.new1 _ _ _ _).below hb' (by simp; omega)); have HB := K.mk (below2 (below_a2 _ _ _) hb'); have v0 := HV.o.cell 0 rfl; have v4 := HV.o.cell 4 rfl; clear hb')
      go_ret
      exact ⟨by rw [HG.o]; rfl, HB.o⟩
  | true =>
    have hi0 : v.items.length = 0 := by simpa using hi
    cases hj : ((v.names.length : Int) == 0)
    all_goals
      have hf : formS (m + 1) v = ((v.names.length : Int) == 0) := by
        rw [HF.o, hj]; simp [hi0]; simpa using hj
      rw [hj] at hf
      have HG := K.mk hf
      clear hf
      rcases hgood with ⟨q1, q2, q3, q4, q5, q6⟩ | ⟨q1, q2, q3, q4, q5, q6⟩ | ⟨q1, q2, q3, q4, q5, q6⟩
      all_goals
        clear hi0
        go_enter Tryd.func52, Tryd.ntmps52
        go_wp2_with (go_at_call 79; go_must (refine HC.o.mono ?_); rintro e w1 ⟨rfl, hb'⟩; have HV := K.mk ((Blk.new1 _ _ _ _).below hb' (by simp; omega)); have HB := K.mk (below2 (below_a2 _ _ _) hb'); have v0 := HV.o.cell 0 rfl; have v4 := HV.o.cell 4 rfl; have v3 := HV.o.cell 3 rfl; clear hb')
        go_ret
        exact ⟨by rw [HG.o]; rfl, HB.o⟩

end Go.Proofs.YtgcbkecpplhknaaDoor
