/- Walks: Same of indexes, of the reference. -/
import Derived.Test.YtgcbkecpplhknaaDoorEShowP
import Derived.Test.YtgcbkecpplhknaaDoorJSameR


import Derived.WalkKit
import Derived.Deep.QuietTactic
import Derived.BigQuiet
import Derived.Outline
import Derived.Deep.DeepMust
import Derived.Deep.CutBlock
import Derived.Deep.DeepCutAuto
import Derived.Deep.RegionWith
import Derived.WalkSpells
import Derived.WalkLawsBesides
import Derived.Test.YtgcbkecpplhknaaDoorMu
import Derived.Test.YtgcbkecpplhknaaDoorProg
set_option linter.unusedVariables false
set_option linter.unusedSimpArgs false
namespace Go.Proofs.YtgcbkecpplhknaaDoor
open Go.RowKit Go.Mu

noncomputable def sameX (a b : IX) : Bool := @decide (a = b) (Classical.propDecidable _)
theorem sameX_true {a b : IX} (h : a = b) : sameX a b = true := by unfold sameX; exact @decide_eq_true _ (Classical.propDecidable _) h
theorem sameX_false {a b : IX} (h : ¬ a = b) : sameX a b = false := by unfold sameX; exact @decide_eq_false _ (Classical.propDecidable _) h
theorem IX.ext' {a b : IX} (h1 : a.name = b.name) (h2 : a.fields = b.fields) (h3 : a.unique = b.unique) : a = b := by cases a; cases b; simp at h1 h2 h3; subst h1 h2 h3; rfl
theorem FD.ext' {a b : FD} (h1 : a.path = b.path) (h2 : a.down = b.down) : a = b := by cases a; cases b; simp at h1 h2; subst h1 h2; rfl

theorem xsame_cases (a b : IX) :
    ((a.name.toList == b.name.toList) = false ∧ sameX a b = false) ∨ ((a.name.toList == b.name.toList) = true ∧ a.unique ≠ b.unique ∧ sameX a b = false) ∨
    ((a.name.toList == b.name.toList) = true ∧ a.unique = b.unique ∧ a.fields.length ≠ b.fields.length ∧ sameX a b = false) ∨
    ((a.name.toList == b.name.toList) = true ∧ a.unique = b.unique ∧ a.fields.length = b.fields.length ∧ (a.fields = b.fields → a = b)) := by
  by_cases h1 : a.name = b.name
  · have e1 : (a.name.toList == b.name.toList) = true := by rw [h1]; simp
    by_cases h2 : a.unique = b.unique
    · by_cases h3 : a.fields.length = b.fields.length
      · right; right; right; exact ⟨e1, h2, h3, fun h => IX.ext' h1 h h2⟩
      · right; right; left; exact ⟨e1, h2, h3, sameX_false (by rintro rfl; exact h3 rfl)⟩
    · right; left; exact ⟨e1, h2, sameX_false (by rintro rfl; exact h2 rfl)⟩
  · left; exact ⟨toList_ne h1, sameX_false (by rintro rfl; exact h1 rfl)⟩

/-- Both boxes of the two indexes stand. -/
def BoxesX (B : Nat) (cs cs' : List Value) (w : World) : Prop := Blk w B 30 cs ∧ Blk w (B + 1) 30 cs'
theorem BoxesX.below {B : Nat} {cs cs' : List Value} {w w' : World} (h : BoxesX B cs cs' w) (hb : Below w.heap.size w w') : BoxesX B cs cs' w' := ⟨h.1.below hb h.1.lt, h.2.below hb h.2.lt⟩

set_option maxHeartbeats 8000000 in
set_option maxRecDepth 100000 in
theorem refSameX_calls (a b : IX) (cs cs' : List Value) (S S' : Blocks) (w : World) (h : rIX.R w S a cs) (h' : rIX.R w S' b cs') :
    Calls Tryd.prog 23 #[.agg cs.toArray, .agg cs'.toArray] w fun e w' => e = .returned (.bool (sameX a b)) ∧ Below w.heap.size w w' := by
  obtain ⟨A, c, rfl, hf, hn⟩ := rIX_open h
  obtain ⟨A', c', rfl, hf', hn'⟩ := rIX_open h'
  have l1 := hf.len_le
  have l2 := hf'.len_le
  have HF := K.mk hf
  have HF' := K.mk hf'
  have hcs := xsame_cases a b
  clear hf hf' h h'
  rcases hcs with ⟨e1, hq⟩ | ⟨e1, e2, hq⟩ | ⟨e1, e2, e3, hq⟩ | ⟨e1, e2, e3, hq⟩
  · have HQ := K.mk hq
    clear hq
    go_enter Tryd.func23, Tryd.ntmps23
    go_wp2_with fail
    go_ret
    exact ⟨ret_bool HQ.o.symm, below_a2 _ _ _⟩
  · have HQ := K.mk hq
    have q1 : (a.unique == b.unique) = false := by cases ha : a.unique <;> cases hb : b.unique <;> simp_all
    have q2 : (a.unique != b.unique) = true := by cases ha : a.unique <;> cases hb : b.unique <;> simp_all
    clear hq e2
    go_enter Tryd.func23, Tryd.ntmps23
    go_wp2_with fail
    go_ret
    exact ⟨ret_bool HQ.o.symm, below_a2 _ _ _⟩
  · have HQ := K.mk hq
    rw [e2]
    have q1 : ((a.fields.length : Int) != (b.fields.length : Int)) = true := bne_tt (by omega)
    have q2 : (a.fields.length != b.fields.length) = true := by simp [e3]
    have q3 : (a.fields.length == b.fields.length) = false := by simp [e3]
    clear hq e2 e3
    go_enter Tryd.func23, Tryd.ntmps23
    go_wp2_with fail
    go_ret
    exact ⟨ret_bool HQ.o.symm, below_a2 _ _ _⟩
  · have HE := K.mk hq
    clear hq
    have HLN' := K.mk e3
    rw [← e3, e2]
    generalize hln : a.fields.length = n at *
    have HLN := K.mk hln
    clear e2 e3 hln
    go_enter Tryd.func23, Tryd.ntmps23
    go_wp2_with fail
    go_loopg [5] n (fun g s wr => ∃ k : Nat, k ≤ n ∧ n - k ≤ g ∧ s = .int .i64 k ∧ K (∀ j, j < k → a.fields[j]? = b.fields[j]?) ∧ K (Below w.heap.size w wr) ∧ K (BoxesX w.heap.size [.string a.name, .slice A n c, .bool b.unique] [.string b.name, .slice A' n c', .bool b.unique] wr))
    case atStart => exact ⟨0, Nat.zero_le _, Nat.le_refl _, rfl, ⟨fun j hj => absurd hj (Nat.not_lt_zero j)⟩, ⟨below_a2 _ _ _⟩, ⟨⟨Blk.new1 _ _ _ _, Blk.new2 _ _ _ _⟩⟩⟩
    case round =>
      obtain ⟨k, hk', hg, rfl, HD, HB, HX⟩ := hrel
      have v1 := HX.o.1.cell 1 rfl
      have u1 := HX.o.2.cell 1 rfl
      rcases Nat.lt_or_ge k n with hlt | hge
      · obtain ⟨b1, o1, x, xcs, rfl, hS, hb1, hx, hRx, hcx⟩ := HF.o.at k (by rw [HLN.o]; exact hlt)
        obtain ⟨b2, o2, y, ycs, rfl, hS', hb2, hy, hRy, hcy⟩ := HF'.o.at k (by rw [← HLN'.o]; exact hlt)
        obtain ⟨rfl, hxs⟩ := rF_open hRx
        obtain ⟨rfl, hys⟩ := rF_open hRy
        obtain ⟨c0, c1⟩ := (hcx.below HB.o).two
        obtain ⟨d0, d1⟩ := (hcy.below HB.o).two
        have HX1 := K.mk hx
        have HY1 := K.mk hy
        clear hx hy hcx hcy hRx hRy hxs hys
        by_cases hxy : x = y
        · have HXY := K.mk hxy
          have q1 : (x.path.toList == y.path.toList) = true := by rw [hxy]; simp
          have q2 : (x.down == y.down) = true := by rw [hxy]; simp
          have q3 : (x.down != y.down) = false := by rw [hxy]; simp
          clear hxy
          go_wp2_with fail
          go_quiet (fail)
          go_wp2_with fail
          go_roundg (n - (k + 1))
          case measure => omega
          case rel => exact ⟨k + 1, by omega, Nat.le_refl _, by go_num, ⟨fun j hj => by
            rcases Nat.lt_succ_iff_lt_or_eq.1 hj with hj | rfl
            · exact HD.o j hj
            · rw [HX1.o, HY1.o, HXY.o]⟩, ⟨below_n HB.o _⟩, ⟨HX.o.below (below_n (Below.refl _ _) _)⟩⟩
        · have hd : sameX a b = false := sameX_false (fun h => list_diff (l := a.fields) (l' := b.fields) k (by rw [HX1.o, HY1.o]; simpa using hxy) (by rw [h]))
          have HDD := K.mk hd
          have hne : (x.path.toList == y.path.toList) = false ∨ ((x.path.toList == y.path.toList) = true ∧ (x.down == y.down) = false) := by
            by_cases hp : x.path = y.path
            · right; refine ⟨by rw [hp]; simp, ?_⟩
              rw [beq_eq_false_iff_ne]; intro hdn; exact hxy (FD.ext' hp hdn)
            · left; exact toList_ne hp
          clear hxy hd
          rcases hne with q1 | ⟨q1, q2⟩
          all_goals
            go_wp2_with fail
            go_quiet (fail)
            go_wp2_with fail
            go_ret
            exact ⟨ret_bool HDD.o.symm, below_n HB.o _⟩
      · have hkk : n = k := by omega
        subst hkk
        have hd : sameX a b = true := sameX_true (HE.o (list_alike (HLN.o.trans HLN'.o) (fun j hj => HD.o j (by rw [← HLN.o]; exact hj))))
        have HDD := K.mk hd
        clear hd
        go_wp2_with fail
        go_ret
        exact ⟨ret_bool HDD.o.symm, HB.o⟩
end Go.Proofs.YtgcbkecpplhknaaDoor
