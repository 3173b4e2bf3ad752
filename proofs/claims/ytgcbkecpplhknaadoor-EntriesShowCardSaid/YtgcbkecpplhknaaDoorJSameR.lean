/- Walks: Same of the reference. -/
import Derived.Test.YtgcbkecpplhknaaDoorJSameX


import Derived.WalkKit
import Derived.Deep.QuietTactic
import Derived.BigQuiet
import Derived.Outline
import Derived.Deep.DeepMust
import Derived.Deep.CutBlock
import Derived.Deep.DeepCutAuto
import Derived.Deep.RegionWith
import Derived.WalkSpells
import Derived.WalkLawsBesides
import Derived.Test.YtgcbkecpplhknaaDoorMu
import Derived.Test.YtgcbkecpplhknaaDoorProg
set_option linter.unusedVariables false
set_option linter.unusedSimpArgs false
namespace Go.Proofs.YtgcbkecpplhknaaDoor
open Go.RowKit Go.Mu

theorem below_n {w wr : World} (h : Below w.heap.size w wr) (q : Nat) : Below w.heap.size w (wr.drewN q) := below_drewN h q
theorem Blk.drewN {w : World} {g : Nat} {t : TypeId} {cs : List Value} (h : Blk w g t cs) (q : Nat) : Blk (w.drewN q) g t cs := h.below (below_drewN (Below.refl w.heap.size w) q) h.lt

/-- How two values differ, or do not, as the reference asks it. -/
theorem rsame_cases (a b : JV) :
    ((a.kind != b.kind) = true ∧ sameS a b = false) ∨ ((a.kind != b.kind) = false ∧ (a.num != b.num) = true ∧ sameS a b = false) ∨
    ((a.kind != b.kind) = false ∧ (a.num != b.num) = false ∧ (a.text.toList == b.text.toList) = false ∧ sameS a b = false) ∨
    ((a.kind != b.kind) = false ∧ (a.num != b.num) = false ∧ (a.text.toList == b.text.toList) = true ∧ a.names.length ≠ b.names.length ∧ sameS a b = false) ∨
    ((a.kind != b.kind) = false ∧ (a.num != b.num) = false ∧ (a.text.toList == b.text.toList) = true ∧ a.names.length = b.names.length ∧ a.items.length ≠ b.items.length ∧ sameS a b = false) ∨
    ((a.kind != b.kind) = false ∧ (a.num != b.num) = false ∧ (a.text.toList == b.text.toList) = true ∧ a.names.length = b.names.length ∧ a.items.length = b.items.length ∧ (a.names = b.names → a.items = b.items → a = b)) := by
  by_cases h1 : a.kind = b.kind
  · have e1 : (a.kind != b.kind) = false := bne_ff h1
    by_cases h2 : a.num = b.num
    · have e2 : (a.num != b.num) = false := bne_ff h2
      by_cases h3 : a.text = b.text
      · have e3 : (a.text.toList == b.text.toList) = true := by rw [h3]; simp
        by_cases h4 : a.names.length = b.names.length
        · by_cases h5 : a.items.length = b.items.length
          · right; right; right; right; right; exact ⟨e1, e2, e3, h4, h5, fun h6 h7 => JV.ext' h1 h2 h3 h6 h7⟩
          · right; right; right; right; left; exact ⟨e1, e2, e3, h4, h5, sameS_false (by rintro rfl; exact h5 rfl)⟩
        · right; right; right; left; exact ⟨e1, e2, e3, h4, sameS_false (by rintro rfl; exact h4 rfl)⟩
      · right; right; left; exact ⟨e1, e2, toList_ne h3, sameS_false (by rintro rfl; exact h3 rfl)⟩
    · right; left; exact ⟨e1, bne_tt h2, sameS_false (by rintro rfl; exact h2 rfl)⟩
  · left; exact ⟨bne_tt h1, sameS_false (by rintro rfl; exact h1 rfl)⟩

/-- Both boxes of the two values stand. -/
def Boxes (B : Nat) (cs cs' : List Value) (w : World) : Prop := Blk w B 37 cs ∧ Blk w (B + 1) 37 cs'
theorem Boxes.below {B : Nat} {cs cs' : List Value} {w w' : World} (h : Boxes B cs cs' w) (hb : Below w.heap.size w w') : Boxes B cs cs' w' := ⟨h.1.below hb h.1.lt, h.2.below hb h.2.lt⟩

set_option maxHeartbeats 8000000 in
set_option maxRecDepth 100000 in
theorem ref_Same_calls : ∀ (a b : JV) (cs cs' : List Value) (S S' : Blocks) (w : World), RV w S a cs → RV w S' b cs' →
    Calls Tryd.prog 22 #[.agg cs.toArray, .agg cs'.toArray] w fun e w' => e = .returned (.bool (sameS a b)) ∧ Below w.heap.size w w' := by
  intro a
  induction a using JV.ind with
  | h a ih =>
    intro b cs cs' S S' w h h'
    obtain ⟨An, cn, Ai, ci, rfl, hnm, hit, hk, hn, ht⟩ := h.wide
    obtain ⟨An', cn', Ai', ci', rfl, hnm', hit', hk', hn', ht'⟩ := h'.wide
    have l1 := hnm.len_le
    have l2 := hnm'.len_le
    have l3 := hit.len_le
    have l4 := hit'.len_le
    have HN := K.mk hnm
    have HN' := K.mk hnm'
    have HI := K.mk hit
    have HI' := K.mk hit'
    have IH := K.mk ih
    have hcs := rsame_cases a b
    clear hnm hit hnm' hit' h h' ih
    rcases hcs with ⟨e1, hq⟩ | ⟨e1, e2, hq⟩ | ⟨e1, e2, e3, hq⟩ | ⟨e1, e2, e3, e4, hq⟩ | ⟨e1, e2, e3, e4, e5, hq⟩ | ⟨e1, e2, e3, e4, e5, hq⟩
    · have HQ := K.mk hq
      clear hq
      go_enter Tryd.func22, Tryd.ntmps22
      go_wp2_with fail
      go_ret
      exact ⟨ret_bool HQ.o.symm, below_a2 _ _ _⟩
    · have HQ := K.mk hq
      clear hq
      go_enter Tryd.func22, Tryd.ntmps22
      go_wp2_with fail
      go_ret
      exact ⟨ret_bool HQ.o.symm, below_a2 _ _ _⟩
    · have HQ := K.mk hq
      clear hq
      go_enter Tryd.func22, Tryd.ntmps22
      go_wp2_with fail
      go_ret
      exact ⟨ret_bool HQ.o.symm, below_a2 _ _ _⟩
    · have HQ := K.mk hq
      have q1 : ((a.names.length : Int) != (b.names.length : Int)) = true := bne_tt (by omega)
      have q2 : (a.names.length != b.names.length) = true := by simp [e4]
      clear hq e4
      go_enter Tryd.func22, Tryd.ntmps22
      go_wp2_with fail
      go_ret
      exact ⟨ret_bool HQ.o.symm, below_a2 _ _ _⟩
    · have HQ := K.mk hq
      have q1 : ((a.names.length : Int) != (b.names.length : Int)) = false := bne_ff (by omega)
      have q2 : (a.names.length != b.names.length) = false := by simp [e4]
      have q3 : ((a.items.length : Int) != (b.items.length : Int)) = true := bne_tt (by omega)
      have q4 : (a.items.length != b.items.length) = true := by simp [e5]
      clear hq e4 e5
      go_enter Tryd.func22, Tryd.ntmps22
      go_wp2_with fail
      go_ret
      exact ⟨ret_bool HQ.o.symm, below_a2 _ _ _⟩
    · have HE := K.mk hq
      clear hq
      have HLN' := K.mk e4
      have HLI' := K.mk e5
      rw [← e4, ← e5]
      generalize hln : a.names.length = ln at *
      generalize hli : a.items.length = li at *
      have HLN := K.mk hln
      have HLI := K.mk hli
      clear e4 e5 hln hli
      go_enter Tryd.func22, Tryd.ntmps22
      go_wp2_with fail
      go_loopg [5] ln (fun g s wr => ∃ k : Nat, k ≤ ln ∧ ln - k ≤ g ∧ s = .int .i64 k ∧ K (∀ j, j < k → a.names[j]? = b.names[j]?) ∧ K (Below w.heap.size w wr) ∧ K (Boxes w.heap.size [.int .i64 a.kind, .int .i64 a.num, .string a.text, .slice An ln cn, .slice Ai li ci] [.int .i64 b.kind, .int .i64 b.num, .string b.text, .slice An' ln cn', .slice Ai' li ci'] wr))
      case atStart => exact ⟨0, Nat.zero_le _, Nat.le_refl _, rfl, ⟨fun j hj => absurd hj (Nat.not_lt_zero j)⟩, ⟨below_a2 _ _ _⟩, ⟨⟨Blk.new1 _ _ _ _, Blk.new2 _ _ _ _⟩⟩⟩
      case round =>
        obtain ⟨k, hk', hg, rfl, HD, HB, HX⟩ := hrel
        have v3 := HX.o.1.cell 3 rfl
        have u3 := HX.o.2.cell 3 rfl
        rcases Nat.lt_or_ge k ln with hlt | hge
        · obtain ⟨b1, o1, x, xcs, rfl, hS, hb1, hx, ⟨rfl, hxs⟩, hcx⟩ := HN.o.at1 k (by rw [HLN.o]; exact hlt)
          obtain ⟨b2, o2, y, ycs, rfl, hS', hb2, hy, ⟨rfl, hys⟩, hcy⟩ := HN'.o.at1 k (by rw [← HLN'.o]; exact hlt)
          have c0 := (hcx.below HB.o).one
          have c1 := (hcy.below HB.o).one
          have HX1 := K.mk hx
          have HY1 := K.mk hy
          clear hx hy hcx hcy
          by_cases hxy : x = y
          · have HXY := K.mk hxy
            have q1 : (x.toList == y.toList) = true := by rw [hxy]; simp
            have q2 : (x.toList != y.toList) = false := by rw [hxy]; simp
            clear hxy
            go_wp2_with fail
            go_quiet (fail)
            go_wp2_with fail
            go_roundg (ln - (k + 1))
            case measure => omega
            case rel => exact ⟨k + 1, by omega, Nat.le_refl _, by go_num, ⟨fun j hj => by
              rcases Nat.lt_succ_iff_lt_or_eq.1 hj with hj | rfl
              · exact HD.o j hj
              · rw [HX1.o, HY1.o, HXY.o]⟩, ⟨below_n HB.o _⟩, ⟨HX.o.below (below_n (Below.refl _ _) _)⟩⟩
          · have q1 := toList_ne hxy
            have q2 : (x.toList != y.toList) = true := by unfold bne; rw [q1]; rfl
            have hd : sameS a b = false := sameS_false (fun h => list_diff (l := a.names) (l' := b.names) k (by rw [HX1.o, HY1.o]; simpa using hxy) (by rw [h]))
            have HDD := K.mk hd
            clear hxy hd
            go_wp2_with fail
            go_quiet (fail)
            go_wp2_with fail
            go_ret
            exact ⟨ret_bool HDD.o.symm, below_n HB.o _⟩
        · have hkk : ln = k := by omega
          subst hkk
          have hns : a.names = b.names := list_alike (HLN.o.trans HLN'.o) (fun j hj => HD.o j (by rw [← HLN.o]; exact hj))
          have HNS := K.mk hns
          clear hns HD hg v3 u3
          have v4 := HX.o.1.cell 4 rfl
          have v3 := HX.o.1.cell 3 rfl
          go_wp2_with fail
          clear v4 v3
          go_loopg [6] li (fun g s wr => ∃ k : Nat, k ≤ li ∧ li - k ≤ g ∧ s = .int .i64 k ∧ K (∀ j, j < k → a.items[j]? = b.items[j]?) ∧ K (Below w.heap.size w wr) ∧ K (Boxes w.heap.size [.int .i64 a.kind, .int .i64 a.num, .string a.text, .slice An ln cn, .slice Ai li ci] [.int .i64 b.kind, .int .i64 b.num, .string b.text, .slice An' ln cn', .slice Ai' li ci'] wr))
          case atStart => exact ⟨0, Nat.zero_le _, Nat.le_refl _, rfl, ⟨fun j hj => absurd hj (Nat.not_lt_zero j)⟩, HB, HX⟩
          case round =>
            clear HB HX
            obtain ⟨k, hk2, hg, rfl, HD, HB, HX⟩ := hrel
            have v4 := HX.o.1.cell 4 rfl
            have u4 := HX.o.2.cell 4 rfl
            have hz1 := HX.o.1.lt
            have hz2 := HX.o.2.lt
            rcases Nat.lt_or_ge k li with hlt | hge
            · obtain ⟨b1, o1, x, xcs, rfl, hS, hb1, hx, hRx, hcx⟩ := HI.o.at k (by rw [HLI.o]; exact hlt)
              obtain ⟨b2, o2, y, ycs, rfl, hS', hb2, hy, hRy, hcy⟩ := HI'.o.at k (by rw [← HLI'.o]; exact hlt)
              have hcall := fun W (hW : Below wr.heap.size wr W) => IH.o x (List.mem_of_getElem? hx) y xcs ycs S S' W (rV.below hRx (below2 HB.o hW)) (rV.below hRy (below2 HB.o hW))
              obtain ⟨xAn, xcn, xA, xc, rfl, _⟩ := hRx.wide
              obtain ⟨yAn, ycn, yA, yc, rfl, _⟩ := hRy.wide
              have g3 : ∀ p : BW wr, p.wd.cell? ⟨w.heap.size, 4, none⟩ = some (.slice (some ⟨b1, o1, none⟩) li ci) := fun p => (p.hb.cell (p := ⟨w.heap.size, 4, none⟩) hz1).trans v4
              have g4 : ∀ p : BW wr, p.wd.cell? ⟨w.heap.size + 1, 4, none⟩ = some (.slice (some ⟨b2, o2, none⟩) li ci') := fun p => (p.hb.cell (p := ⟨w.heap.size + 1, 4, none⟩) hz2).trans u4
              have HCX := K.mk (fun (p : BW wr) => ((hcx.below HB.o).below p.hb).five)
              have HCY := K.mk (fun (p : BW wr) => ((hcy.below HB.o).below p.hb).five)
              have x0 := fun p => (HCX.o p).1
              have x1 := fun p => (HCX.o p).2.1
              have x2 := fun p => (HCX.o p).2.2.1
              have x3 := fun p => (HCX.o p).2.2.2.1
              have x4 := fun p => (HCX.o p).2.2.2.2
              have y0 := fun p => (HCY.o p).1
              have y1 := fun p => (HCY.o p).2.1
              have y2 := fun p => (HCY.o p).2.2.1
              have y3 := fun p => (HCY.o p).2.2.2.1
              have y4 := fun p => (HCY.o p).2.2.2.2
              have HX1 := K.mk hx
              have HY1 := K.mk hy
              clear hx hy hcx hcy hRx hRy
              by_cases hxy : x = y
              · have HC := K.mk hcall
                have HS := K.mk (sameS_true hxy)
                have HXY := K.mk hxy
                rw [HS.o] at HC
                clear hcall hxy
                go_wp2_with fail
                refine wp_region_below (by kernel_rfl) (by kernel_rfl) ?_
                repeat (go_big_quiet_step (first | (go_at_call 22; exact bw_call _ (fun W hW => HC.o W hW))))
                refine wpQuiet_nil ?_
                intro _ hw'
                obtain ⟨⟨wq, hbq⟩, hw''⟩ := hw'
                subst hw''
                go_wp2_with fail
                go_roundg (li - (k + 1))
                case measure => omega
                case rel => exact ⟨k + 1, by omega, Nat.le_refl _, by go_num, ⟨fun j hj => by
                  rcases Nat.lt_succ_iff_lt_or_eq.1 hj with hj | rfl
                  · exact HD.o j hj
                  · rw [HX1.o, HY1.o, HXY.o]⟩, ⟨below2 HB.o hbq⟩, ⟨HX.o.below hbq⟩⟩
              · have HC := K.mk hcall
                have HS := K.mk (sameS_false hxy)
                have hd : sameS a b = false := sameS_false (fun h => list_diff (l := a.items) (l' := b.items) k (by rw [HX1.o, HY1.o]; simpa using hxy) (by rw [h]))
                have HDD := K.mk hd
                rw [HS.o] at HC
                clear hcall hxy hd
                go_wp2_with fail
                refine wp_region_below (by kernel_rfl) (by kernel_rfl) ?_
                repeat (go_big_quiet_step (first | (go_at_call 22; exact bw_call _ (fun W hW => HC.o W hW))))
                refine wpQuiet_nil ?_
                intro _ hw'
                obtain ⟨⟨wq, hbq⟩, hw''⟩ := hw'
                subst hw''
                go_wp2_with fail
                go_ret
                exact ⟨ret_bool HDD.o.symm, below2 HB.o hbq⟩
            · have hkk : li = k := by omega
              subst hkk
              have hd : sameS a b = true := sameS_true (HE.o HNS.o (list_alike (HLI.o.trans HLI'.o) (fun j hj => HD.o j (by rw [← HLI.o]; exact hj))))
              have HDD := K.mk hd
              clear hd
              go_wp2_with fail
              go_ret
              exact ⟨ret_bool HDD.o.symm, HB.o⟩
end Go.Proofs.YtgcbkecpplhknaaDoor
