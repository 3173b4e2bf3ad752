/- Walks: Same of the program, with slices.EqualFunc over values. -/
import Derived.Test.YtgcbkecpplhknaaDoorJSameW


import Derived.WalkKit
import Derived.Deep.QuietTactic
import Derived.BigQuiet
import Derived.Outline
import Derived.Deep.DeepMust
import Derived.Deep.CutBlock
import Derived.Deep.DeepCutAuto
import Derived.Deep.RegionWith
import Derived.WalkSpells
import Derived.WalkLawsBesides
import Derived.Test.YtgcbkecpplhknaaDoorMu
import Derived.Test.YtgcbkecpplhknaaDoorProg
set_option linter.unusedVariables false
set_option linter.unusedSimpArgs false
namespace Go.Proofs.YtgcbkecpplhknaaDoor
open Go.RowKit Go.Mu

/-- Two lists of values are alike. -/
noncomputable def sameL (l l' : List JV) : Bool := @decide (l = l') (Classical.propDecidable _)
theorem sameL_true {a b : List JV} (h : a = b) : sameL a b = true := by unfold sameL; exact @decide_eq_true _ (Classical.propDecidable _) h
theorem sameL_false {a b : List JV} (h : ¬ a = b) : sameL a b = false := by unfold sameL; exact @decide_eq_false _ (Classical.propDecidable _) h

set_option maxHeartbeats 4000000 in
set_option maxRecDepth 100000 in
theorem eqFunc_calls (l l' : List JV) (A A' : Option Addr) (c c' : Nat) (S S' : Blocks) (w : World)
    (h : SliceR (RV w S) 5 w S l (.slice A l.length c)) (h' : SliceR (RV w S') 5 w S' l' (.slice A' l'.length c'))
    (ih : ∀ x ∈ l, ∀ (y : JV) (cs cs' : List Value) (S S' : Blocks) (W : World), RV W S x cs → RV W S' y cs' → Calls Tryd.prog 51 #[.agg cs.toArray, .agg cs'.toArray] W fun e w' => e = .returned (.bool (sameS x y)) ∧ Below W.heap.size W w') :
    Calls Tryd.prog 78 #[.slice A l.length c, .slice A' l'.length c', .func (.func 51) #[] #[]] w fun e w' => e = .returned (.bool (sameL l l')) ∧ Below w.heap.size w w' := by
  have hlen := h.len_le
  have hlen' := h'.len_le
  have HL := K.mk h
  have HL' := K.mk h'
  have IH := K.mk ih
  clear h h' ih
  by_cases hn : l.length = l'.length
  · have HN := K.mk hn
    rw [← hn]
    generalize hm : l.length = n at *
    have HM := K.mk hm
    clear hn hm
    go_enter Tryd.func78, Tryd.ntmps78
    go_wp2_with fail
    go_loopg [17] n (fun g s wr => ∃ k : Nat, k ≤ n ∧ n - k ≤ g ∧ s = .int .i64 k ∧ K (∀ j, j < k → l[j]? = l'[j]?) ∧ K (Below w.heap.size w wr))
    case atStart => exact ⟨0, Nat.zero_le _, Nat.le_refl _, rfl, ⟨fun j hj => absurd hj (Nat.not_lt_zero j)⟩, ⟨Below.refl _ _⟩⟩
    case round =>
      obtain ⟨k, hk', hg, rfl, HD, HB⟩ := hrel
      by_cases hlt : k < n
      · obtain ⟨b, o, x, xcs, rfl, hS, hb, hx, hRx, hcx⟩ := HL.o.at k (by rw [HM.o]; exact hlt)
        obtain ⟨b', o', y, ycs, rfl, hS', hb', hy, hRy, hcy⟩ := HL'.o.at k (by rw [← HN.o]; exact hlt)
        have hcall := fun W (hW : Below w.heap.size w W) => IH.o x (List.mem_of_getElem? hx) y xcs ycs S S' W (rV.below hRx hW) (rV.below hRy hW)
        obtain ⟨xAn, xcn, xA, xc, rfl, _⟩ := hRx.wide
        obtain ⟨yAn, ycn, yA, yc, rfl, _⟩ := hRy.wide
        obtain ⟨c0, c1, c2, c3, c4⟩ := (hcx.below HB.o).five
        obtain ⟨d0, d1, d2, d3, d4⟩ := (hcy.below HB.o).five
        have hz1 : b < wr.heap.size := Nat.lt_of_lt_of_le hb HB.o.size
        have hz2 : b' < wr.heap.size := Nat.lt_of_lt_of_le hb' HB.o.size
        have HX := K.mk hx
        have HY := K.mk hy
        clear hx hy hcx hcy hRx hRy
        by_cases hxy : x = y
        · have HC := K.mk hcall
          have HS := K.mk (sameS_true hxy)
          have HXY := K.mk hxy
          rw [HS.o] at HC
          clear hcall hxy
          go_wp2_with (go_at_call 51; go_must (refine (HC.o _ (HB.o.trans ((below_a2 wr _ _).mono HB.o.size))).mono ?_); rintro e w2 ⟨rfl, hb2⟩)
          go_roundg (n - (k + 1))
          case measure => omega
          case rel => exact ⟨k + 1, by omega, Nat.le_refl _, by go_num, ⟨fun j hj => by
            rcases Nat.lt_succ_iff_lt_or_eq.1 hj with hj | rfl
            · exact HD.o j hj
            · rw [HX.o, HY.o, HXY.o]⟩, ⟨below2 (HB.o.trans ((below_a2 wr _ _).mono HB.o.size)) hb2⟩⟩
        · have HC := K.mk hcall
          have HS := K.mk (sameS_false hxy)
          have hd : sameL l l' = false := sameL_false (list_diff k (by rw [HX.o, HY.o]; simpa using hxy))
          have HDD := K.mk hd
          rw [HS.o] at HC
          clear hcall hxy hd
          go_wp2_with (go_at_call 51; go_must (refine (HC.o _ (HB.o.trans ((below_a2 wr _ _).mono HB.o.size))).mono ?_); rintro e w2 ⟨rfl, hb2⟩)
          go_ret
          exact ⟨ret_bool HDD.o.symm, below2 (HB.o.trans ((below_a2 wr _ _).mono HB.o.size)) hb2⟩
      · have hkk : k = n := by omega
        subst hkk
        have hd : sameL l l' = true := sameL_true (list_alike (HM.o.trans HN.o) (fun j hj => HD.o j (by rw [← HM.o]; exact hj)))
        have HDD := K.mk hd
        clear hd
        go_wp2_with fail
        go_ret
        exact ⟨ret_bool HDD.o.symm, HB.o⟩
  · have q1 : ((l.length : Int) != (l'.length : Int)) = true := bne_tt (by omega)
    have q2 : (l.length != l'.length) = true := by simp [hn]
    have hd : sameL l l' = false := sameL_false (by rintro rfl; exact hn rfl)
    have HDD := K.mk hd
    clear hd hn
    go_enter Tryd.func78, Tryd.ntmps78
    go_wp2_with fail
    go_ret
    exact ⟨ret_bool HDD.o.symm, Below.refl _ _⟩

/-- How two values differ, or do not. -/
theorem same_cases (a b : JV) :
    ((a.kind == b.kind) = false ∧ sameS a b = false) ∨ ((a.kind == b.kind) = true ∧ (a.num == b.num) = false ∧ sameS a b = false) ∨
    ((a.kind == b.kind) = true ∧ (a.num == b.num) = true ∧ (a.text.toList == b.text.toList) = false ∧ sameS a b = false) ∨
    ((a.kind == b.kind) = true ∧ (a.num == b.num) = true ∧ (a.text.toList == b.text.toList) = true ∧ namesEq a.names b.names = false ∧ sameS a b = false) ∨
    ((a.kind == b.kind) = true ∧ (a.num == b.num) = true ∧ (a.text.toList == b.text.toList) = true ∧ namesEq a.names b.names = true ∧ sameL a.items b.items = false ∧ sameS a b = false) ∨
    ((a.kind == b.kind) = true ∧ (a.num == b.num) = true ∧ (a.text.toList == b.text.toList) = true ∧ namesEq a.names b.names = true ∧ sameL a.items b.items = true ∧ sameS a b = true) := by
  by_cases h1 : a.kind = b.kind
  · have e1 : (a.kind == b.kind) = true := beq_tt h1
    by_cases h2 : a.num = b.num
    · have e2 : (a.num == b.num) = true := beq_tt h2
      by_cases h3 : a.text = b.text
      · have e3 : (a.text.toList == b.text.toList) = true := by rw [h3]; simp
        by_cases h4 : a.names = b.names
        · have e4 : namesEq a.names b.names = true := by unfold namesEq; exact decide_eq_true h4
          by_cases h5 : a.items = b.items
          · right; right; right; right; right; exact ⟨e1, e2, e3, e4, sameL_true h5, sameS_true (JV.ext' h1 h2 h3 h4 h5)⟩
          · right; right; right; right; left; exact ⟨e1, e2, e3, e4, sameL_false h5, sameS_false (by rintro rfl; exact h5 rfl)⟩
        · right; right; right; left; exact ⟨e1, e2, e3, by unfold namesEq; exact decide_eq_false h4, sameS_false (by rintro rfl; exact h4 rfl)⟩
      · right; right; left; exact ⟨e1, e2, toList_ne h3, sameS_false (by rintro rfl; exact h3 rfl)⟩
    · right; left; exact ⟨e1, beq_ff h2, sameS_false (by rintro rfl; exact h2 rfl)⟩
  · left; exact ⟨beq_ff h1, sameS_false (by rintro rfl; exact h1 rfl)⟩

set_option maxHeartbeats 8000000 in
set_option maxRecDepth 100000 in
theorem json_Same_calls : ∀ (a b : JV) (cs cs' : List Value) (S S' : Blocks) (w : World), RV w S a cs → RV w S' b cs' →
    Calls Tryd.prog 51 #[.agg cs.toArray, .agg cs'.toArray] w fun e w' => e = .returned (.bool (sameS a b)) ∧ Below w.heap.size w w' := by
  intro a
  induction a using JV.ind with
  | h a ih =>
    intro b cs cs' S S' w h h'
    obtain ⟨An, cn, Ai, ci, rfl, hnm, hit, hk, hn, ht⟩ := h.wide
    obtain ⟨An', cn', Ai', ci', rfl, hnm', hit', hk', hn', ht'⟩ := h'.wide
    have HC := K.mk (fun W (hW : Below w.heap.size w W) => eqNames_calls a.names b.names An An' cn cn' S S' W (hnm.imp (fun b hs hlt => ⟨hW.block b hlt, hs⟩) (fun x _ cs hr => hr)) (hnm'.imp (fun b hs hlt => ⟨hW.block b hlt, hs⟩) (fun x _ cs hr => hr)))
    have HI := K.mk (fun W (hW : Below w.heap.size w W) => eqFunc_calls a.items b.items Ai Ai' ci ci' S S' W (hit.imp (fun b hs hlt => ⟨hW.block b hlt, hs⟩) (fun x _ cs hr => rV.below hr hW)) (hit'.imp (fun b hs hlt => ⟨hW.block b hlt, hs⟩) (fun x _ cs hr => rV.below hr hW)) ih)
    have hcs := same_cases a b
    clear hnm hit hnm' hit' h h' ih
    generalize sameS a b = q at *
    generalize namesEq a.names b.names = q4 at *
    generalize sameL a.items b.items = q5 at *
    rcases hcs with ⟨e1, rfl⟩ | ⟨e1, e2, rfl⟩ | ⟨e1, e2, e3, rfl⟩ | ⟨e1, e2, e3, rfl, rfl⟩ | ⟨e1, e2, e3, rfl, rfl, rfl⟩ | ⟨e1, e2, e3, rfl, rfl, rfl⟩
    all_goals
      go_enter Tryd.func51, Tryd.ntmps51
      go_wp2_with (first
        | (go_at_call 49; go_must (refine (HC.o _ (below_a2 _ _ _)).mono ?_); rintro e w1 ⟨rfl, hb1⟩; have HV := K.mk ((Blk.new1 _ _ _ _).below hb1 (by simp; omega)); have HV2 := K.mk ((Blk.new2 _ _ _ _).below hb1 (by simp)); have v4 := HV.o.cell 4 rfl; have u4 := HV2.o.cell 4 rfl; have HB := K.mk (below2 (below_a2 _ _ _) hb1); clear hb1)
        | (go_at_call 78; go_must (refine (HI.o _ HB.o).mono ?_); rintro e w2 ⟨rfl, hb2⟩; have HB2 := K.mk (below2 HB.o hb2); clear hb2))
      go_ret
      exact ⟨rfl, by first | exact HB2.o | exact HB.o | exact below_a2 _ _ _⟩
end Go.Proofs.YtgcbkecpplhknaaDoor
