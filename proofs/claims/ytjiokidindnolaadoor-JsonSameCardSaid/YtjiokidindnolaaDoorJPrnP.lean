/- Walks: value of the printer at every formed value; Print of the program. -/
import Derived.Test.YtjiokidindnolaaDoorJPrnL
import Derived.Test.YtjiokidindnolaaDoorJFormC


import Derived.WalkKit
import Derived.Deep.QuietTactic
import Derived.BigQuiet
import Derived.Outline
import Derived.Deep.DeepMust
import Derived.Deep.CutBlock
import Derived.Deep.DeepCutAuto
import Derived.Deep.RegionWith
import Derived.WalkSpells
import Derived.WalkLawsBesides
import Derived.Test.YtjiokidindnolaaDoorMu
import Derived.Test.YtjiokidindnolaaDoorProg
set_option linter.unusedVariables false
set_option linter.unusedSimpArgs false
namespace Go.Proofs.YtjiokidindnolaaDoor
open Go.RowKit Go.Mu

theorem value_calls : ∀ (m : Nat), m ≤ 6 → ∀ (B b : Nat), 2 < B → ∀ (v : JV) (cs : List Value) (l : List UInt8) (w : World), RV w (fun k => k < B) v cs → formS m v = true → PB B b l w → PT w → l.length + (showS m v).length ≤ 70000000000000 → B ≤ w.heap.size →
    Calls Tryd.prog 22 #[.pointer (some ⟨b, 0, none⟩), .agg cs.toArray] w (PQ B b (l ++ showS m v) w) := by
  intro m
  induction m with
  | zero => intro _ B b _ v cs l w h hf; simp [formS] at hf
  | succ m ih =>
    intro hm B b hg v cs l w h hf hP hT hl hBw
    obtain ⟨hb, htx, hi, _⟩ := form_parts hf
    have hts : v.text.size ≤ 60 := by simp only [textS, Bool.and_eq_true, decide_eq_true_eq] at htx; exact htx.1
    have IH := K.mk (fun x (hx : x ∈ v.items) cs l w h1 h2 h3 h4 h5 => ih (by omega) B b hg x cs l w h1 (hi x hx) h2 h3 h4 h5)
    have hk : (v.kind = 0 ∨ v.kind = 1 ∨ v.kind = 2) ∨ v.kind = 3 ∨ v.kind = 4 ∨ v.kind = 5 ∨ v.kind = 6 := by simp only [baseS, Bool.and_eq_true, decide_eq_true_eq] at hb; omega
    rcases hk with hk | hk | hk | hk | hk
    · exact value_word m v cs B b l w h hk hP (by omega) hBw
    · exact value_int m v cs B b l w h hk hP hT hg (by omega) hBw
    · exact value_str m v cs B b l w h hk hts hP (by omega) hBw
    · exact value_arr m (by omega) v cs B b l w h hf hk hP hT hg hl hBw IH
    · exact value_obj m (by omega) v cs B b l w h hf hk hP hT hg hl hBw IH

theorem show_ne (m : Nat) (v : JV) (h : formS (m + 1) v = true) : showS (m + 1) v ≠ [] := by
  obtain ⟨hb, _⟩ := form_parts h
  have hd : ∀ u, Lib.decDigits u ≠ [] := fun u => by rw [Lib.decDigits]; split <;> simp
  unfold showS
  repeat' split
  all_goals first | (simp; done) | (unfold Lib.itoa; split <;> simp [hd]; done) | (unfold quotedS; simp; done) | skip

theorem PB.fresh (B : Nat) (w : World) (hB : B ≤ w.heap.size) : PB B w.heap.size [] (w.alloc (.cells #[.pointer none, .slice none 0 0] 42)) :=
  .inl ⟨hB, .slice none 0 0, heap_alloc_new w _, World.ownsRowF_nil _ _ _ _, by simp [Value.ownBlock]⟩

set_option maxHeartbeats 4000000 in
theorem json_Print_calls (v : JV) (cs : List Value) (S : Blocks) (w : World) (h : RV w S v cs) (hT : Tabs w) (hT2 : PT w) (hg : 2 < w.heap.size) :
    Calls Tryd.prog 13 #[.agg cs.toArray] w fun e w' => e = .returned (.tuple #[.string (printS v).1, .int .i64 (printS v).2]) ∧ Below w.heap.size w w' := by
  have HF := K.mk (fun w' (hb : Below w.heap.size w w') => json_Formed_calls v cs S w' (rV.below h hb) (hT.below hb))
  have HR := K.mk (show RV w (fun k => k < w.heap.size) v cs from rV.mono (rV.bound h) (fun b hb => hb.2))
  have HT2 := K.mk hT2
  obtain ⟨An, cn, Ai, ci, rfl, hnm, hit, hk, hn, ht⟩ := h.wide
  have hilen := hit.len_le
  have hnlen := hnm.len_le
  clear hnm hit h
  cases hq : formS 6 v
  all_goals
    simp only [hq] at HF
    have HP := K.mk (show printS v = _ by unfold printS; rw [hq])
  · clear hq
    go_enter Tryd.func13, Tryd.ntmps13
    go_wp2_with (go_at_call 9; go_must (refine (HF.o _ (below_a1 _ _)).mono ?_); rintro e w1 ⟨rfl, hb1⟩; have HB := K.mk (below2 (below_a1 _ _) hb1); clear hb1)
    go_ret2
    exact ⟨by rw [HP.o]; rfl, HB.o⟩
  · have HQ := K.mk hq
    clear hq
    go_enter Tryd.func13, Tryd.ntmps13
    have hlen : (showS 6 v).length ≤ 70000000000000 := by
      have h1 := (show_len 6 v _ _ w HR.o HQ.o).1
      have h2 : capS 6 ≤ 70000000000000 := by decide
      omega
    go_wp2_with (first
      | (go_at_call 9; go_must (refine (HF.o _ (below_a1 _ _)).mono ?_); rintro e w1 ⟨rfl, hb1⟩; have HV := K.mk ((Blk.new _ _ _).below hb1 (by simp)); have e0 := fun o => (HV.o.alloc o).cell 0 rfl; have e1 := fun o => (HV.o.alloc o).cell 1 rfl; have e2 := fun o => (HV.o.alloc o).cell 2 rfl; have e3 := fun o => (HV.o.alloc o).cell 3 rfl; have e4 := fun o => (HV.o.alloc o).cell 4 rfl; have HB := K.mk (below2 (below_a1 _ _) hb1); clear hb1)
      | (go_at_call 22; go_must (refine (value_calls 6 (Nat.le_refl _) w.heap.size w1.heap.size hg v _ [] _ (rV.frame HR.o (fun b hb => ((HB.o.alloc HB.o.size _)).block b hb)) HQ.o (PB.fresh _ _ HB.o.size) (HT2.o.below (HB.o.alloc HB.o.size _) hg) (by simpa using hlen) (by have := HB.o.size; simp; omega)).mono ?_); rintro e w2 ⟨rfl, hp2, hb2, hk2⟩; have HP2 := K.mk hp2; have HB2 := K.mk hb2; clear hp2 hb2 hk2)
      | (go_at_call 23; go_must (refine (String_p w.heap.size w1.heap.size _ _ HP2.o (by rw [List.nil_append]; exact show_ne 5 v HQ.o)).mono ?_); rintro e w3 ⟨rfl, hb3⟩))
    go_ret2
    exact ⟨by rw [HP.o]; rfl, ((HB.o.alloc HB.o.size _).trans HB2.o).trans hb3⟩
end Go.Proofs.YtjiokidindnolaaDoor
