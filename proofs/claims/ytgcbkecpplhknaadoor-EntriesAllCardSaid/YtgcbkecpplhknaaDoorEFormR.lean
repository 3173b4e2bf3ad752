/- Walks: Formed and Few of indexes, of the reference. -/
import Derived.Test.YtgcbkecpplhknaaDoorEForm
import Derived.Test.YtgcbkecpplhknaaDoorBw


import Derived.WalkKit
import Derived.Deep.QuietTactic
import Derived.BigQuiet
import Derived.Outline
import Derived.Deep.DeepMust
import Derived.Deep.CutBlock
import Derived.Deep.DeepCutAuto
import Derived.Deep.RegionWith
import Derived.WalkSpells
import Derived.WalkLawsBesides
import Derived.Test.YtgcbkecpplhknaaDoorMu
import Derived.Test.YtgcbkecpplhknaaDoorProg
set_option linter.unusedVariables false
set_option linter.unusedSimpArgs false
namespace Go.Proofs.YtgcbkecpplhknaaDoor
open Go.RowKit Go.Mu

theorem any_no {l : List FD} {k : Nat} {p : ByteArray} (h : ∀ i, i < k → ∀ g, l[i]? = some g → g.path ≠ p) : (l.take k).any (fun g => decide (g.path = p)) = false := by
  rw [List.any_eq_false]
  intro g hg
  obtain ⟨i, hi⟩ := List.getElem?_of_mem hg
  rw [List.getElem?_take] at hi
  split at hi
  · rename_i hik; simpa using h i hik g hi
  · cases hi
theorem any_yes {l : List FD} {k i : Nat} {g : FD} {p : ByteArray} (hi : i < k) (hg : l[i]? = some g) (h : g.path = p) : (l.take k).any (fun g => decide (g.path = p)) = true := by
  rw [List.any_eq_true]
  refine ⟨g, ?_, by simpa using h⟩
  apply List.mem_of_getElem? (i := i)
  rw [List.getElem?_take, if_pos hi]; exact hg

theorem rfield_cases (l : List FD) (i : Nat) (f : FD) (h : l[i]? = some f) :
    (stepsS f.path = none ∧ fieldS l i = false) ∨ (∃ q, stepsS f.path = some q ∧ (plainS f.path && decide (f.path.size ≤ 24)) = false ∧ fieldS l i = false) ∨
    (∃ q, stepsS f.path = some q ∧ (plainS f.path && decide (f.path.size ≤ 24)) = true ∧ fieldS l i = !(l.take i).any (fun g => decide (g.path = f.path))) := by
  rw [fieldS_some h]
  cases h1 : stepsS f.path with
  | none => left; exact ⟨rfl, rfl⟩
  | some q =>
    cases h2 : plainS f.path && decide (f.path.size ≤ 24)
    · right; left; refine ⟨q, rfl, rfl, ?_⟩
      cases h3 : plainS f.path <;> simp [h3] at h2 ⊢; omega
    · right; right; refine ⟨q, rfl, rfl, ?_⟩
      rw [Bool.and_eq_true] at h2
      rw [h2.1, h2.2]; simp

set_option maxRecDepth 100000 in
set_option maxHeartbeats 8000000 in
theorem refFormed_calls (x : IX) (cs : List Value) (S : Blocks) (w : World) (h : rIX.R w S x cs) (hT : Tabs w) :
    Calls Tryd.prog 13 #[.agg cs.toArray] w fun e w' => e = .returned (.bool (formX x)) ∧ Below w.heap.size w w' := by
  obtain ⟨A, c, rfl, hf, hns⟩ := rIX_open h
  have hlen := hf.len_le
  have HT := K.mk hT
  have HF := K.mk hf
  have HN := K.mk (fun W => refName_calls x.name hns W)
  have HX := K.mk (formX_eq x)
  clear hf h hT
  by_cases h1 : x.fields.length < 1
  · have h1' : (x.fields.length : Int) < 1 := by omega
    have HQ := K.mk (show formX x = false by rw [HX.o]; simp; omega)
    clear HX h1
    go_enter Tryd.func13, Tryd.ntmps13
    go_wp2_with fail
    go_ret
    exact ⟨ret_bool HQ.o.symm, below_a1 _ _⟩
  by_cases h3 : 3 < x.fields.length
  · have h1' : ¬ (x.fields.length : Int) < 1 := by omega
    have h3' : (3 : Int) < (x.fields.length : Int) := by omega
    have HQ := K.mk (show formX x = false by rw [HX.o]; simp; omega)
    clear HX h1 h3
    go_enter Tryd.func13, Tryd.ntmps13
    go_wp2_with fail
    go_ret
    exact ⟨ret_bool HQ.o.symm, below_a1 _ _⟩
  have h1' : ¬ (x.fields.length : Int) < 1 := by omega
  have h3' : ¬ (3 : Int) < (x.fields.length : Int) := by omega
  have HQ := K.mk (show formX x = (nameS x.name && fieldsS x.fields) by rw [HX.o, show decide (1 ≤ x.fields.length) = true by simp; omega, show decide (x.fields.length ≤ 3) = true by simp; omega]; simp)
  generalize hn : x.fields.length = n at *
  have HL := K.mk hn
  clear HX h1 h3 hn
  go_enter Tryd.func13, Tryd.ntmps13
  go_wp2_with fail
  go_loopg [3] n (fun g s wr => ∃ k : Nat, k ≤ n ∧ n - k ≤ g ∧ s = .int .i64 k ∧ K (allTo k (fieldS x.fields) = true) ∧ K (Below w.heap.size w wr) ∧ K (Blk wr w.heap.size 30 [.string x.name, .slice A n c, .bool x.unique]))
  case atStart => exact ⟨0, Nat.zero_le _, Nat.le_refl _, rfl, ⟨rfl⟩, ⟨below_a1 _ _⟩, ⟨Blk.new _ _ _⟩⟩
  case round =>
    obtain ⟨k, hk', hg, rfl, HD, HB, HV⟩ := hrel
    have v1 := HV.o.cell 1 rfl
    rcases Nat.lt_or_ge k n with hlt | hge
    · obtain ⟨b, o, f, fcs, rfl, hS, hb, hfx, hRf, hcf⟩ := HF.o.at k (by rw [HL.o]; exact hlt)
      obtain ⟨rfl, hfs⟩ := rF_open hRf
      obtain ⟨c0, c1⟩ := (hcf.below HB.o).two
      have hz1 : b < wr.heap.size := Nat.lt_of_lt_of_le hb HB.o.size
      have hz2 := HV.o.lt
      have hcase := rfield_cases x.fields k f hfx
      have HTW := K.mk (HT.o.below HB.o)
      have HFX := K.mk (fields_no (i := k) (l := x.fields) (by rw [HL.o]; exact hlt))
      have hfs' : f.path.size ≤ 281474976710656 := hfs
      have HCF := K.mk hcf
      have HP := K.mk (fun W => simple_calls f.path hfs W)
      clear hfx hRf hcf hfs
      rcases hcase with ⟨q1, hq⟩ | ⟨l, q1, q2, hq⟩ | ⟨l, q1, q2, hq⟩
      · have HQ1 := K.mk q1
        have HNO := K.mk (HFX.o hq)
        clear q1 hq HFX
        go_wp2_with (go_at_call 44; go_must (refine (rsteps_none f.path hfs' _ HTW.o HQ1.o).mono ?_); rintro e w2 ⟨rfl, hb2⟩)
        go_ret
        exact ⟨ret_bool (by rw [HQ.o, HNO.o]; simp), below2 HB.o hb2⟩
      · have HQ1 := K.mk q1
        have HNO := K.mk (HFX.o hq)
        rw [q2] at HP
        clear q1 q2 hq HFX
        go_wp2_with (first
          | (go_at_call 44; go_must (refine (rsteps_some f.path hfs' _ HTW.o l HQ1.o).mono ?_); rintro e w2 ⟨A2, C2, rfl, hs2, hb2, hl2⟩; have HB2 := K.mk (below2 HB.o hb2); have HV2 := K.mk (HV.o.below hb2 HV.o.lt); have u1 := HV2.o.cell 1 rfl; have d0 := ((HCF.o.below HB2.o).two).1; clear hb2 hs2)
          | (go_at_call 45; go_must (refine (HP.o _).mono ?_); rintro e w3 ⟨rfl, rfl⟩))
        go_ret
        exact ⟨ret_bool (by rw [HQ.o, HNO.o]; simp), HB2.o⟩
      · have HQ1 := K.mk q1
        have HYES := K.mk hq
        have HHF := K.mk (show x.fields[k]? = some f from by
          obtain ⟨b', o', f', fcs', he, _, _, hfx', hR', hc'⟩ := HF.o.at k (by rw [HL.o]; exact hlt)
          injection he with he; injection he with he1 he2; subst he1 he2
          obtain ⟨rfl, _⟩ := rF_open hR'
          rw [hfx']
          have e0 := (hc'.below HB.o).two.1
          have e1 := (hc'.below HB.o).two.2
          rw [c0] at e0
          rw [c1] at e1
          injection e0 with e0; injection e0 with e0
          injection e1 with e1; injection e1 with e1
          cases f; cases f'; simp at e0 e1; subst e0 e1; rfl)
        rw [q2] at HP
        clear q1 q2 hq
        go_wp2_with (first
          | (go_at_call 44; go_must (refine (rsteps_some f.path hfs' _ HTW.o l HQ1.o).mono ?_); rintro e w2 ⟨A2, C2, rfl, hs2, hb2, hl2⟩; have HB2 := K.mk (below2 HB.o hb2); have HV2 := K.mk (HV.o.below hb2 HV.o.lt); have u1 := HV2.o.cell 1 rfl; have d0 := ((HCF.o.below HB2.o).two).1; clear hb2 hs2)
          | (go_at_call 45; go_must (refine (HP.o _).mono ?_); rintro e w3 ⟨rfl, rfl⟩))
        clear u1 d0 v1 c0 c1
        go_loopg [6] k (fun g s wr => ∃ j : Nat, j ≤ k ∧ k - j ≤ g ∧ s = .int .i64 j ∧ K (∀ i, i < j → ∀ g, x.fields[i]? = some g → g.path ≠ f.path) ∧ K (Below w.heap.size w wr) ∧ K (Blk wr w.heap.size 30 [.string x.name, .slice (some ⟨b, o, none⟩) n c, .bool x.unique]))
        case atStart => exact ⟨0, Nat.zero_le _, Nat.le_refl _, rfl, ⟨fun i hi => absurd hi (Nat.not_lt_zero _)⟩, HB2, HV2⟩
        case round =>
          clear HB2 HV2
          obtain ⟨j, hj', hg2, rfl, HD2, HB2, HV2⟩ := hrel
          have v1 := HV2.o.cell 1 rfl
          rcases Nat.lt_or_ge j k with hlt2 | hge2
          · obtain ⟨b', o', f', fcs', he, _, _, hfx', hR', hc'⟩ := HF.o.at j (by rw [HL.o]; omega)
            injection he with he
            injection he with he1 he2
            subst he1 he2
            obtain ⟨rfl, _⟩ := rF_open hR'
            have c0 := ((HCF.o.below HB2.o).two).1
            have d0 := ((hc'.below HB2.o).two).1
            have HX2 := K.mk hfx'
            clear hfx' hR' hc'
            by_cases hxy : f'.path = f.path
            · have HNO := K.mk (HFX.o (by rw [HYES.o, any_yes hlt2 HX2.o hxy]; rfl))
              have q1 : (f'.path.toList == f.path.toList) = true := by rw [hxy]; simp
              clear hxy
              go_wp2_with fail
              go_quiet (fail)
              go_wp2_with fail
              go_ret
              exact ⟨ret_bool (by rw [HQ.o, HNO.o]; simp), Go.Mu.below_drewN HB2.o _⟩
            · have q1 := toList_ne hxy
              have HXY := K.mk hxy
              clear hxy
              go_wp2_with fail
              go_quiet (fail)
              go_wp2_with fail
              go_roundg (k - (j + 1))
              case measure => omega
              case rel => exact ⟨j + 1, by omega, Nat.le_refl _, by go_num, ⟨fun i hi g hg => by
                rcases Nat.lt_succ_iff_lt_or_eq.1 hi with hi | rfl
                · exact HD2.o i hi g hg
                · rw [HX2.o] at hg; cases hg; exact HXY.o⟩, ⟨Go.Mu.below_drewN HB2.o _⟩, ⟨HV2.o.below (Go.Mu.below_drewN (Below.refl _ _) _) HV2.o.lt⟩⟩
          · have hjj : j = k := by omega
            subst hjj
            have HY2 := K.mk (show fieldS x.fields j = true by rw [HYES.o, any_no HD2.o]; rfl)
            go_wp2_with fail
            go_roundg (n - (j + 1))
            case measure => omega
            case rel => exact ⟨j + 1, by omega, Nat.le_refl _, by go_num, ⟨by rw [allTo_succ, HD.o, HY2.o]; rfl⟩, HB2, HV2⟩
    · have hkk : k = n := by omega
      subst hkk
      have HYES := K.mk (show fieldsS x.fields = true by unfold fieldsS; rw [HL.o]; exact HD.o)
      have v0 := HV.o.cell 0 rfl
      go_wp2_with (go_at_call 16; go_must (refine (HN.o _).mono ?_); rintro e w3 ⟨rfl, rfl⟩)
      go_ret
      exact ⟨ret_bool (by rw [HQ.o, HYES.o]; simp), HB.o⟩

theorem all_take_step {α : Type} (p : α → Bool) (l : List α) (k : Nat) (x : α) (hx : l[k]? = some x) (h : (l.take k).all p = true) (hp : p x = true) : (l.take (k + 1)).all p = true := by
  rw [all_take_snoc p l k x hx, h, hp]; rfl

set_option maxRecDepth 100000 in
set_option maxHeartbeats 8000000 in
theorem refFew_calls (x : IX) (cs : List Value) (S : Blocks) (w : World) (h : rIX.R w S x cs) (h10 : x.fields.length ≤ 10) :
    Calls Tryd.prog 39 #[.agg cs.toArray] w fun e w' => e = .returned (.bool (fewX x)) ∧ Below w.heap.size w w' := by
  obtain ⟨A, c, rfl, hf, hns⟩ := rIX_open h
  have HF := K.mk hf
  have HX := K.mk (show fewX x = (decide (x.fields.length ≤ 10) && (x.fields.all fun f => decide (f.path.size ≤ 1000)) && decide (x.name.size ≤ 1000)) from rfl)
  clear hf h
  generalize hn : x.fields.length = n at *
  have HL := K.mk hn
  have h10' : (n : Int) ≤ 10 := by omega
  clear hn
  go_enter Tryd.func39, Tryd.ntmps39
  go_wp2_with fail
  go_loopg [3] n (fun g s wr => ∃ k : Nat, k ≤ n ∧ n - k ≤ g ∧ s = .int .i64 k ∧ K ((x.fields.take k).all (fun f => decide (f.path.size ≤ 1000)) = true) ∧ K (Below w.heap.size w wr) ∧ K (Blk wr w.heap.size 30 [.string x.name, .slice A n c, .bool x.unique]))
  case atStart => exact ⟨0, Nat.zero_le _, Nat.le_refl _, rfl, ⟨by simp⟩, ⟨below_a1 _ _⟩, ⟨Blk.new _ _ _⟩⟩
  case round =>
    obtain ⟨k, hk', hg, rfl, HD, HB, HV⟩ := hrel
    have v1 := HV.o.cell 1 rfl
    have v0 := HV.o.cell 0 rfl
    rcases Nat.lt_or_ge k n with hlt | hge
    · obtain ⟨b, o, f, fcs, rfl, hS, hb, hfx, hRf, hcf⟩ := HF.o.at k (by rw [HL.o]; exact hlt)
      obtain ⟨rfl, hfs⟩ := rF_open hRf
      have c0 := ((hcf.below HB.o).two).1
      have hk10 : (k : Int) < 10 := by omega
      have hlt' : (k : Int) < (n : Int) := by omega
      have HF1 := K.mk (all_false_of (fun f : FD => decide (f.path.size ≤ 1000)) x.fields k f hfx)
      have HT1 := K.mk (all_take_step (fun f : FD => decide (f.path.size ≤ 1000)) x.fields k f hfx)
      clear hfx hRf hcf
      by_cases hl : 1000 < f.path.size
      · have hlz : (1000 : Int) < (f.path.size : Int) := by omega
        have HNO := K.mk (HF1.o (by simp; omega))
        clear hl
        go_wp2_with fail
        go_ret
        exact ⟨ret_bool (by rw [HX.o, HNO.o]; simp), HB.o⟩
      · have hlz : ¬ (1000 : Int) < (f.path.size : Int) := by omega
        have HY := K.mk (HT1.o HD.o (by simp; omega))
        clear hl
        go_wp2_with fail
        go_roundg (n - (k + 1))
        case measure => omega
        case rel => exact ⟨k + 1, by omega, Nat.le_refl _, by go_num, HY, HB, HV⟩
    · have hkk : k = n := by omega
      subst hkk
      have HY := K.mk (show (x.fields.all fun f => decide (f.path.size ≤ 1000)) = true by have h := HD.o; rw [← HL.o, List.take_length] at h; exact h)
      have HZ := K.mk (show fewX x = decide ((x.name.size : Int) ≤ 1000) by rw [HX.o, HY.o, show decide (k ≤ 10) = true by simp; omega]; rw [Bool.eq_iff_iff]; simp; omega)
      go_wp2_with fail
      go_ret
      exact ⟨ret_bool (by rw [HZ.o]), HB.o⟩
end Go.Proofs.YtgcbkecpplhknaaDoor
