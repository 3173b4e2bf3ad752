/- Words for cards: a world for the witness in which the library's tables are laid, unicode.CaseRanges too. -/
import Derived.Test.YtgcbkecpplhknaaDoorRows
import Derived.Test.YtgcbkecpplhknaaDoorShelf
import Derived.Test.YtgcbkecpplhknaaDoorJForm
import Derived.Lib.LaidCaseMet
import Derived.Lib.LaidU8T
import Derived.WalkKit
import Derived.ProofKit
import Derived.Deep.DeepHandedRow
import GoSem.PinnedTables
import Derived.LaidLaws
set_option linter.unusedVariables false
namespace Go.Proofs.YtgcbkecpplhknaaDoor
open Go.ChangeShapes Go.WideShapes Go.ChangeAt Go.RowKit Go.Mu

theorem laidMet_swap {P : Program} {w : World} {a b c : String × DataW Unit} (h : laidMet P [a, c, b] w) : laidMet P [a, b, c] w := by
  obtain ⟨na, da⟩ := a
  obtain ⟨nb, db⟩ := b
  obtain ⟨nc, dc⟩ := c
  obtain ⟨ps, hv, hn, hp⟩ := h
  obtain ⟨g1, t1, cs1, f1, p1, q1, a1, a2, a3, a4, hv, rfl⟩ := hv
  obtain ⟨g2, t2, cs2, f2, p2, q2, b1, b2, b3, b4, hv, rfl⟩ := hv
  obtain ⟨g3, t3, cs3, f3, p3, q3, c1, c2, c3, c4, hv, rfl⟩ := hv
  cases hv
  have hperm : List.Perm (MemPlace.row ⟨g1, 0, none⟩ cs1.size ++ p1 ++ (MemPlace.row ⟨g3, 0, none⟩ cs3.size ++ p3 ++ (MemPlace.row ⟨g2, 0, none⟩ cs2.size ++ p2 ++ [])))
      (MemPlace.row ⟨g1, 0, none⟩ cs1.size ++ p1 ++ (MemPlace.row ⟨g2, 0, none⟩ cs2.size ++ p2 ++ (MemPlace.row ⟨g3, 0, none⟩ cs3.size ++ p3 ++ []))) := by
    apply List.Perm.append_left
    simp only [List.append_nil]
    exact List.perm_append_comm
  refine ⟨_, ⟨g1, t1, cs1, f1, p1, _, a1, a2, a3, a4, ⟨g3, t3, cs3, f3, p3, _, c1, c2, c3, c4, ⟨g2, t2, cs2, f2, p2, _, b1, b2, b3, b4, rfl, rfl⟩, rfl⟩, rfl⟩, hperm.nodup_iff.2 hn, fun b off hb => hp b off (hperm.mem_iff.1 hb)⟩

/-- A world for the witness: the settled one with a block more, the variables holding what their initialisers lay. -/
noncomputable def laidWorld (os : Os) : World :=
  let N := (World.settled Tryd.prog os).heap.size
  let w0 := World.holding Tryd.prog os ⟨#[.cells Lib.caseCells5 (Tryd.lays204_ren.t 208)], #[], []⟩
  let put (h : Array Obj) (g : Nat) (cs : Array Value) : Array Obj := h.modify g fun
    | .cells _ t frozen => .cells cs t frozen
    | o => o
  let h1 := put w0.heap 0 (Lib.firstTab.map fun z => Value.int .u8 z).toArray
  let h2 := put h1 1 ((List.range 16).flatMap fun i => [Value.int .u8 (Lib.accLo i), Value.int .u8 (Lib.accHi i)]).toArray
  let h3 := put h2 3 #[.slice (some ⟨N, 0, none⟩) 336 336]
  { w0 with heap := h3 }
theorem laid_case (os : Os) (args : Array Value) : laidMet Tryd.prog ([("unicode/utf8.acceptRanges", Rows.laid_unicode_utf8_acceptRanges), ("unicode/utf8.first", Rows.laid_unicode_utf8_first)] ++ [("unicode.CaseRanges", Lib.caseData)]) ((laidWorld os).forCall (fun _ _ => 0) ⟨#[], args, []⟩).memory :=
  laidMet_with_case (ρ := Tryd.lays204_ren) { Tryd.lays204 with } (by kernel_rfl) ⟨by kernel_rfl, by kernel_rfl, by kernel_rfl, by kernel_rfl, by kernel_rfl, by kernel_rfl⟩
    10 (by kernel_rfl) (by kernel_rfl) (by kernel_rfl) (World.settled Tryd.prog default).heap.size (Tryd.lays204_ren.t 208) (of_decide_eq_true (by kernel_rfl)) (by kernel_rfl) (by kernel_rfl) (by kernel_rfl)
theorem laid_met3 (os : Os) (args : Array Value) : laidMet Tryd.prog [("unicode/utf8.acceptRanges", Rows.laid_unicode_utf8_acceptRanges), ("unicode.CaseRanges", Rows.laid_unicode_CaseRanges), ("unicode/utf8.first", Rows.laid_unicode_utf8_first)] ((laidWorld os).forCall (fun _ _ => 0) ⟨#[], args, []⟩).memory := by
  have h := laid_case os args
  rw [show (Lib.caseData : DataW Unit) = Rows.laid_unicode_CaseRanges by kernel_rfl] at h
  exact laidMet_swap h
theorem tabs3 {W : World} (h : laidMet Tryd.prog [("unicode/utf8.acceptRanges", Rows.laid_unicode_utf8_acceptRanges), ("unicode.CaseRanges", Rows.laid_unicode_CaseRanges), ("unicode/utf8.first", Rows.laid_unicode_utf8_first)] W) : Tabs W := by
  have h1 := Lib.laidMet.reads h (.head _)
  have h2 := Lib.laidMet.reads h (.tail _ (.tail _ (.head _)))
  rw [show (Rows.laid_unicode_utf8_first : DataW Unit) = Lib.firstData by kernel_rfl] at h2
  rw [show (Rows.laid_unicode_utf8_acceptRanges : DataW Unit) = Lib.acceptData by kernel_rfl] at h1
  exact utf8Tabs_of_readsT (U8Types.of196 Tryd.laysValid) ⟨by kernel_rfl, by kernel_rfl, by kernel_rfl, by kernel_rfl, by kernel_rfl, by kernel_rfl, by kernel_rfl⟩ h2 h1
theorem ownKn : ownKnob Tryd.prog.godebug = none := by kernel_rfl
theorem laidOut : laidOutB Tryd.prog = true := by kernel_rfl
theorem agg_of_cells {v : Value} {cs : List Value} (h : v.cells.toList = cs) (hl : 2 ≤ cs.length) : v = .agg cs.toArray := by
  cases v <;> simp [Value.cells] at h <;> subst h <;> first | (simp at hl; done) | simp
theorem one_of_cells {v u : Value} (h : v.cells.toList = [u]) (hu : ∀ cs, v ≠ .agg cs) : v = u := by
  cases v <;> simp [Value.cells] at h <;> first | exact h | (exact absurd rfl (hu _)) | skip
end Go.Proofs.YtgcbkecpplhknaaDoor
