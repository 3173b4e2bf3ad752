/- Walks: formed and Formed of the reference. -/
import Derived.Test.YtgcbkecpplhknaaDoorJFormR
import Derived.Test.YtgcbkecpplhknaaDoorJRefV
import Derived.Test.YtgcbkecpplhknaaDoorJFew
import Derived.Test.YtgcbkecpplhknaaDoorBw
import Derived.Test.YtgcbkecpplhknaaDoorJFormB


import Derived.WalkKit
import Derived.Deep.QuietTactic
import Derived.BigQuiet
import Derived.Outline
import Derived.Deep.DeepMust
import Derived.Deep.CutBlock
import Derived.Deep.DeepCutAuto
import Derived.Deep.RegionWith
import Derived.WalkSpells
import Derived.WalkLawsBesides
import Derived.Test.YtgcbkecpplhknaaDoorMu
import Derived.Test.YtgcbkecpplhknaaDoorProg
set_option linter.unusedVariables false
set_option linter.unusedSimpArgs false
namespace Go.Proofs.YtgcbkecpplhknaaDoor
open Go.RowKit Go.Mu

set_option maxRecDepth 100000 in
set_option maxHeartbeats 4000000 in
theorem ref_bad1 (v : JV) (cs : List Value) (S : Blocks) (w : World) (h : RV w S v cs) (hb : baseS v = false) :
    Calls Tryd.prog 85 #[.agg cs.toArray] w fun e w' => e = .returned (.bool (formR v)) ∧ Below w.heap.size w w' := by
  obtain ⟨An, cn, Ai, ci, rfl, hnm, hit, hk, hn, ht⟩ := h.wide
  have hilen := hit.len_le
  have hnlen := hnm.len_le
  have hf : formR v = false := by rw [formR_eq]; simp [shapeS, hb]
  have HF := K.mk hf
  have hbase := base_cases v
  clear hnm hit h hf
  rcases hbase with ⟨q1, hq⟩ | ⟨q1, q2, hq⟩ | ⟨q1, q2, q3, q4, hq⟩ | ⟨q1, q2, q3, q4, q5, hq⟩ | ⟨q1, q2, q3, q4, q5, q6, hq⟩ | ⟨q1, q2, q3, q4, q5, hq⟩ | ⟨q1, q2, q3, q4, q5, hq⟩ | ⟨q1, q2, q3, q4, q5, q6, hq⟩
  all_goals first | (rw [hb] at hq; cases hq; done) | skip
  all_goals
    clear hq hb
    go_enter Tryd.func85, Tryd.ntmps85
    go_wp2_with fail
    go_ret
    exact ⟨by rw [HF.o]; rfl, below_a1 _ _⟩

/-- What of the shape does not hold, as the reference asks it. -/
theorem ref_cases (v : JV) (hb : baseS v = true) :
    (((v.kind != 6) = true ∧ 0 < v.names.length) ∧ shapeS v = false) ∨
    (((v.kind != 6) = true ∧ v.names.length = 0 ∧ v.kind < 5 ∧ 0 < v.items.length) ∧ shapeS v = false) ∨
    (((v.kind != 6) = true ∧ v.names.length = 0 ∧ ¬ v.kind < 5 ∧ (24 : Int) < v.items.length) ∧ shapeS v = false) ∨
    (((v.kind != 6) = false ∧ ¬ v.kind < 5 ∧ (24 : Int) < v.items.length) ∧ shapeS v = false) ∨
    (((v.kind != 6) = true ∧ v.names.length = 0 ∧ v.kind < 5 ∧ v.items.length = 0 ∧ ¬ (24 : Int) < v.items.length) ∧ shapeS v = (textS v.text && namesS v.names)) ∨
    (((v.kind != 6) = true ∧ v.names.length = 0 ∧ ¬ v.kind < 5 ∧ ¬ (24 : Int) < v.items.length) ∧ shapeS v = (textS v.text && namesS v.names)) ∨
    (((v.kind != 6) = false ∧ ¬ v.kind < 5 ∧ ¬ (24 : Int) < v.items.length) ∧ shapeS v = (textS v.text && (decide (v.names.length = v.items.length) && namesS v.names))) := by
  have hn0 : v.names.length = 0 → namesS v.names = true := fun h => by rw [List.eq_nil_of_length_eq_zero h]; rfl
  by_cases k6 : v.kind = 6
  · have k5 : ¬ v.kind < 5 := by omega
    by_cases c : 24 < v.items.length
    · right; right; right; left; exact ⟨⟨by simp [k6], k5, by omega⟩, by simp [shapeS, k5]; omega⟩
    · right; right; right; right; right; right; exact ⟨⟨by simp [k6], k5, by omega⟩, by
        have c' : v.items.length ≤ 24 := by omega
        simp [shapeS, hb, k6, c']⟩
  · have k6' : (v.kind != 6) = true := by simp [k6]
    by_cases n0 : 0 < v.names.length
    · left; exact ⟨⟨k6', by omega⟩, by
        have n0' : ¬ v.names = [] := by intro h; rw [h] at n0; simp at n0
        simp [shapeS, k6, n0']⟩
    · have hns := hn0 (by omega)
      have n1 : v.names = [] := List.eq_nil_of_length_eq_zero (by omega)
      by_cases k5 : v.kind < 5
      · by_cases i0 : 0 < v.items.length
        · right; left; exact ⟨⟨k6', by omega, k5, by omega⟩, by
            have i0' : ¬ v.items = [] := by intro h; rw [h] at i0; simp at i0
            simp [shapeS, k5, i0']⟩
        · have i1 : v.items = [] := List.eq_nil_of_length_eq_zero (by omega)
          right; right; right; right; left; exact ⟨⟨k6', by omega, k5, by omega, by omega⟩, by
            have hz : namesS [] = true := rfl
            simp [shapeS, k5, hb, i1, n1, hz]⟩
      · by_cases c : 24 < v.items.length
        · right; right; left; exact ⟨⟨k6', by omega, k5, by omega⟩, by simp [shapeS, k5]; omega⟩
        · right; right; right; right; right; left; exact ⟨⟨k6', by omega, k5, by omega⟩, by
            have c' : v.items.length ≤ 24 := by omega
            simp [shapeS, k5, hb, n1, c', k6]⟩



set_option maxRecDepth 100000 in
set_option maxHeartbeats 8000000 in
/-- The counts are wrong. -/
theorem ref_bad2 (v : JV) (cs : List Value) (S : Blocks) (w : World) (h : RV w S v cs) (hb : baseS v = true) (hs : shapeS v = false)
    (hc : ((v.kind != 6) = true ∧ 0 < v.names.length) ∨ ((v.kind != 6) = true ∧ v.names.length = 0 ∧ v.kind < 5 ∧ 0 < v.items.length) ∨
      ((v.kind != 6) = true ∧ v.names.length = 0 ∧ ¬ v.kind < 5 ∧ (24 : Int) < v.items.length) ∨ ((v.kind != 6) = false ∧ ¬ v.kind < 5 ∧ (24 : Int) < v.items.length)) :
    Calls Tryd.prog 85 #[.agg cs.toArray] w fun e w' => e = .returned (.bool (formR v)) ∧ Below w.heap.size w w' := by
  obtain ⟨An, cn, Ai, ci, rfl, hnm, hit, hk, hn, ht⟩ := h.wide
  have hilen := hit.len_le
  have hnlen := hnm.len_le
  have HFR := K.mk (formR_eq v)
  have HC := K.mk (ref_text_calls v.text)
  have hgood := good_cases v hb
  have hf : formR v = false := by rw [HFR.o, hs]; rfl
  have HF := K.mk hf
  clear hnm hit h hf hs hb HFR HC
  rcases hc with ⟨p1, p2⟩ | ⟨p1, pn, p3, p4⟩ | ⟨p1, pn, p3, p4⟩ | ⟨p1, p3, p4⟩
  all_goals
    rcases hgood with ⟨q1, q2, q3, q4, q5, q6⟩ | ⟨q1, q2, q3, q4, q5, q6⟩ | ⟨q1, q2, q4, q5, q6, q7⟩
    all_goals first | (exfalso; omega) | skip
    all_goals
      try rw [pn]
      try rw [pi]
      try clear pn
      try clear pi
      go_enter Tryd.func85, Tryd.ntmps85
      go_wp2_with fail
      go_ret
      exact ⟨by rw [HF.o]; rfl, below_a1 _ _⟩

/-- The counts are right, but for the names' at an Object. -/
def CountR (v : JV) : Prop := ((v.kind != 6) = true ∧ v.names.length = 0 ∧ v.kind < 5 ∧ v.items.length = 0 ∧ ¬ (24 : Int) < v.items.length) ∨
  ((v.kind != 6) = true ∧ v.names.length = 0 ∧ ¬ v.kind < 5 ∧ ¬ (24 : Int) < v.items.length) ∨ ((v.kind != 6) = false ∧ ¬ v.kind < 5 ∧ ¬ (24 : Int) < v.items.length)

set_option maxRecDepth 100000 in
set_option maxHeartbeats 8000000 in
/-- The text is wrong. -/
theorem ref_bad3 (v : JV) (cs : List Value) (S : Blocks) (w : World) (h : RV w S v cs) (hb : baseS v = true) (htx : textS v.text = false) (hc : CountR v) :
    Calls Tryd.prog 85 #[.agg cs.toArray] w fun e w' => e = .returned (.bool (formR v)) ∧ Below w.heap.size w w' := by
  obtain ⟨An, cn, Ai, ci, rfl, hnm, hit, hk, hn, ht⟩ := h.wide
  have hilen := hit.len_le
  have hnlen := hnm.len_le
  have HFR := K.mk (formR_eq v)
  have HC := K.mk (ref_text_calls v.text)
  have hgood := good_cases v hb
  have hf : formR v = false := by rw [HFR.o]; simp [shapeS, htx]
  have HF := K.mk hf
  simp only [htx] at HC
  clear hnm hit h hf hb HFR htx
  rcases hc with ⟨p1, pn, p3, pi, p5⟩ | ⟨p1, pn, p3, p4⟩ | ⟨p1, p3, p4⟩
  all_goals
    rcases hgood with ⟨q1, q2, q3, q4, q5, q6⟩ | ⟨q1, q2, q3, q4, q5, q6⟩ | ⟨q1, q2, q4, q5, q6, q7⟩
    all_goals first | (exfalso; omega) | skip
    all_goals
      try rw [pn]
      try rw [pi]
      try clear pn
      try clear pi
      go_enter Tryd.func85, Tryd.ntmps85
      go_wp2_with (go_at_call 118; go_must (refine (HC.o _).mono ?_); rintro e w1 ⟨rfl, hb'⟩)
      go_ret
      exact ⟨by rw [HF.o]; rfl, below2 (below_a1 _ _) hb'⟩

end Go.Proofs.YtgcbkecpplhknaaDoor
