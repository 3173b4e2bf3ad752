/- Walks: depth, Depth, of the program and of the reference. -/
import Derived.Test.YtgcbkecpplhknaaDoorJPlain


import Derived.WalkKit
import Derived.Deep.QuietTactic
import Derived.BigQuiet
import Derived.Outline
import Derived.Deep.DeepMust
import Derived.Deep.CutBlock
import Derived.Deep.DeepCutAuto
import Derived.Deep.RegionWith
import Derived.WalkSpells
import Derived.WalkLawsBesides
import Derived.Test.YtgcbkecpplhknaaDoorMu
import Derived.Test.YtgcbkecpplhknaaDoorProg
set_option linter.unusedVariables false
set_option linter.unusedSimpArgs false
namespace Go.Proofs.YtgcbkecpplhknaaDoor
open Go.RowKit Go.Mu

theorem kind_split (k : Int) (h : ¬ (k ≠ 5 ∧ k ≠ 6)) : (k != 5) = false ∨ ((k != 5) = true ∧ (k != 6) = false) := by
  by_cases h5 : k = 5
  · exact .inl (by simp [h5])
  · exact .inr ⟨by simp [h5], by simp; omega⟩


set_option maxHeartbeats 1000000 in
theorem ref_depth_calls (m : Nat) : ∀ (v : JV) (cs : List Value) (S : Blocks) (w : World) (hm : m < 100) (h : RV w S v cs),
    Calls Tryd.prog 117 #[.agg cs.toArray, .int .i64 (m + 1 : Nat)] w fun e w' => e = .returned (.int .i64 (depthS m v)) ∧ Below w.heap.size w w' := by
  induction m with
  | zero =>
    intro v cs S w hm h
    obtain ⟨An, cn, Ai, ci, rfl, hnm, hit, hk, hn, ht⟩ := h.wide
    have hilen := hit.len_le
    have hnlen := hnm.len_le
    go_enter Tryd.func117, Tryd.ntmps117
    go_wp2_with fail
    all_goals (go_ret; exact ⟨rfl, (Below.refl _ _).alloc (Nat.le_refl _) _⟩)
  | succ m ih =>
    intro v cs S w hm h
    obtain ⟨An, cn, Ai, ci, rfl, hnm, hit, hk, hn, ht⟩ := h.wide
    have hilen := hit.len_le
    have hnlen := hnm.len_le
    by_cases hkind : v.kind ≠ 5 ∧ v.kind ≠ 6
    · have k5 : (v.kind != 5) = true := by simp [hkind.1]
      have k6 : (v.kind != 6) = true := by simp [hkind.2]
      have hs := depthS_leaf m v hkind
      go_enter Tryd.func117, Tryd.ntmps117
      go_wp2_with fail
      all_goals (go_ret; exact ⟨by rw [hs]; rfl, (Below.refl _ _).alloc (Nat.le_refl _) _⟩)
    · have hk56 := kind_split v.kind hkind
      have HS := K.mk (depthS_node m v hkind)
      have HR := K.mk hit
      have IH := K.mk ih
      have HL := K.mk fun k => foldl_max_le (depthS m) (m + 1) (v.items.take k) (fun x _ => depthS_le m x) 0 (by omega)
      have m1 : ((m : Int) + 1 + 1 == 1) = false := by simp; omega
      clear hkind hit ih h hnm
      rcases hk56 with k5 | ⟨k5, k6⟩
      all_goals
        go_enter Tryd.func117, Tryd.ntmps117
        go_wp2_with fail
        go_loopg [5, 6] v.items.length (fun g s5 s23 wr => ∃ k : Nat, k ≤ v.items.length ∧ v.items.length - k ≤ g ∧ s23 = .int .i64 k ∧ s5 = .int .i64 ((v.items.take k).foldl (fun n x => max n (depthS m x)) 0 : Nat) ∧ K (Below w.heap.size w wr) ∧ K (Blk wr w.heap.size 37 [.int .i64 v.kind, .int .i64 v.num, .string v.text, .slice An v.names.length cn, .slice Ai v.items.length ci]))
        case atStart => exact ⟨0, Nat.zero_le _, Nat.le_refl _, rfl, rfl, ⟨(Below.refl _ _).alloc (Nat.le_refl _) _⟩, ⟨Blk.new _ _ _⟩⟩
        case round =>
          obtain ⟨k, hk', hg, rfl, rfl, HB, HV⟩ := hrel
          have hle := HL.o k
          generalize hd : (v.items.take k).foldl (fun n x => max n (depthS m x)) 0 = d at hle
          have HD := K.mk hd
          clear hd
          by_cases hlt : k < v.items.length
          · obtain ⟨b, o, x, xcs, rfl, hS, hb, hx, hRx, hcx⟩ := HR.o.at k hlt
            have hnext := foldl_snoc (fun n x => max n (depthS m x)) 0 v.items k x hx
            rw [HD.o] at hnext
            have HX := K.mk hnext
            clear hx hnext
            have hcall := fun W hW => IH.o x xcs S W (by omega) (rV.below hRx hW)
            have hqle := depthS_le m x
            obtain ⟨xAn, xcn, xA, xc, rfl, _⟩ := hRx.wide
            obtain ⟨c0, c1, c2, c3, c4⟩ := (hcx.below HB.o).five
            have v4 := HV.o.cell 4 rfl
            have hsz := HV.o.lt
            generalize hq : depthS m x = q at hcall hqle
            have HQ := K.mk hq
            have HC := K.mk hcall
            clear hcall hcx hq
            go_wp2_with (go_at_call 117; go_must (refine (HC.o _ (HB.o)).mono ?_); rintro e w' ⟨rfl, hb'⟩)
            all_goals
              go_roundg (v.items.length - (k + 1))
              case measure => omega
              case rel => exact ⟨k + 1, by omega, Nat.le_refl _, by go_num, by rw [HX.o, HQ.o]; go_num, ⟨below2 HB.o hb'⟩, ⟨HV.o.below (below2 (w := wr) (by first | exact Below.refl _ _ | exact (Below.refl _ _).alloc (Nat.le_refl _) _) hb') hsz⟩⟩
          · have hkk : k = v.items.length := by omega
            subst hkk
            rw [List.take_length] at HD
            have v4 := HV.o.cell 4 rfl
            go_wp2_with fail
            go_ret
            exact ⟨by rw [HS.o, HD.o]; rfl, HB.o⟩

end Go.Proofs.YtgcbkecpplhknaaDoor
