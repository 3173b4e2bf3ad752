/- The card of EntriesAll: the law's walk, and the given form around it. -/
import Derived.Test.YtgcbkecpplhknaaDoorCards
import Derived.Test.YtgcbkecpplhknaaDoorTie
import Derived.Test.YtgcbkecpplhknaaDoorOpen
import Derived.Test.YtgcbkecpplhknaaDoorIx
import Derived.Test.YtgcbkecpplhknaaDoorBytesO
import Derived.Test.YtgcbkecpplhknaaDoorELawE
import Derived.Test.YtgcbkecpplhknaaDoorCaseWit
import Derived.WalkKit
import Derived.ProofKit
import Derived.OpenShut
import Derived.ChangeMaps5
import Derived.Deep.DeepHandedRow
import Derived.Deep.DeepWitnessRowRef
import GoSem.PinnedTables
import Derived.Carry
import Derived.LaidLaws
set_option linter.unusedVariables false
namespace Go.Proofs.YtgcbkecpplhknaaDoor.EntriesAll
open Go.ChangeShapes Go.WideShapes Go.ChangeAt Go.RowKit Go.Mu

def rLIX : Rep (List IX) := rSlice rIX

theorem opensLIX {H : Type} {enc : TypeId × Value → H} {W : World} (n : Nat) : Opens enc Tryd.prog W n 55 (rLIX.R W (fun _ => True)) :=
  (opens_slice (fun _ _ => trivial) Tryd.underlying55 (of_decide_eq_true (by kernel_rfl)) (by kernel_rfl) (by decide) (opens_IX (n := n) (fun _ _ => trivial) Tryd.underlying24 (by kernel_rfl) ⟨rfl, rfl⟩ ⟨rfl, rfl⟩ ⟨rfl, rfl⟩ (by kernel_rfl) (by kernel_rfl) (of_decide_eq_true (by kernel_rfl)) Tryd.underlying65 (by kernel_rfl) ⟨rfl, rfl⟩ ⟨rfl, rfl⟩ (by kernel_rfl) (by kernel_rfl) (by kernel_rfl) (by kernel_rfl))).le (Nat.le_succ n)

theorem opensV {H : Type} {enc : TypeId × Value → H} {W : World} (n : Nat) : Opens enc Tryd.prog W n 37 (RV W (fun _ => True)) :=
  opens_V (fun _ _ => trivial) Tryd.underlying37 (by kernel_rfl) ⟨rfl, rfl⟩ ⟨rfl, rfl⟩ ⟨rfl, rfl⟩ ⟨rfl, rfl⟩ ⟨rfl, rfl⟩ (by kernel_rfl) (by kernel_rfl) (by kernel_rfl) (by kernel_rfl) (by kernel_rfl) (by kernel_rfl) (by kernel_rfl) (by kernel_rfl) (by kernel_rfl) (by kernel_rfl) (of_decide_eq_true (by kernel_rfl)) (of_decide_eq_true (by kernel_rfl)) n

set_option maxRecDepth 100000 in
theorem contract (H : Type) (enc : TypeId × Value → H) (W : World) (base : Nat) (args : Array Value) (ds gs : List (DataW H)) (before : List MemPlace)
    (hval : ∀ (j : Nat) t v, Tryd.f6.params[j]? = some t → args[j]? = some v → Value.okWide Tryd.prog W .any base t v)
    (hW : DataW.Whole enc Tryd.prog Tryd.f6.params.toList Rows.entriesAllSpec.vars false W args.toList ds gs before)
    (hsz : (DataW.weightsEach Tryd.prog (Tryd.f6.params.toList ++ Rows.entriesAllSpec.plain.varTypes Tryd.prog) (ds ++ gs)).all (· ≤ reachBytes) = true)
    (hL : laidMetH Tryd.prog Rows.entriesAllRow.laid W) :
    Calls Tryd.prog 6 args W fun e W' => ∃ v, e = .returned v ∧ Rows.entriesAllSpec.post enc Tryd.prog Tryd.f6 false true false false W args v W' := by
  have hW' := hW
  have T := tabs3 hL
  obtain ⟨p, q, hA0, hV, rfl, hfz, hnd⟩ := hW
  have hA : DataW.TrodAll enc Tryd.prog W 0 (fun _ => true) true Tryd.f6.params.toList args.toList ds p := hA0
  rw [Tryd.params6] at hA
  obtain ⟨v0, vs0, d0, ds0, p0, q0, hargs, rfl, rfl, t0, r0⟩ := trodAll_cons hA
  obtain ⟨v1, vs1, d1, ds1, p1, q1, rfl, rfl, rfl, t1, r1⟩ := trodAll_cons r0
  obtain ⟨rfl, rfl, rfl⟩ := trodAll_nil r1
  obtain rfl : args = #[v0, v1] := by cases args; simp_all
  obtain ⟨rfl, rfl⟩ := trodVars_none hV
  have hw0 : ∀ k ∈ d0.weights Tryd.prog 55, k ≤ reachBytes := fun k hk => by
    have h1 := List.all_eq_true.1 hsz k (DataW.weights_mem_each (j := 0) (t := 55) (d := d0) rfl rfl k hk)
    simpa using h1
  have k0 := t0
  have lt0 : ∀ x ∈ p0, x.block < W.heap.size := by obtain ⟨m, hm⟩ := t0; exact DataW.trod_lt m _ _ _ hm
  have hw1 : ∀ k ∈ d1.weights Tryd.prog 37, k ≤ reachBytes := fun k hk => by
    have h1 := List.all_eq_true.1 hsz k (DataW.weights_mem_each (j := 1) (t := 37) (d := d1) rfl rfl k hk)
    simpa using h1
  have k1 := t1
  have lt1 : ∀ x ∈ p1, x.block < W.heap.size := by obtain ⟨m, hm⟩ := t1; exact DataW.trod_lt m _ _ _ hm
  obtain ⟨x0, h0⟩ : ∃ x, rLIX.R W (fun _ => True) x [v0] := by
    obtain ⟨a, len, cap, he⟩ := okWide_slice Tryd.underlying55 (hval 0 55 v0 (by rw [Tryd.params6]; rfl) rfl)
    obtain ⟨m, hm⟩ := t0
    obtain ⟨x, hR⟩ := opensLIX m m (Nat.le_refl _) _ _ hm hw0
    refine ⟨x, ?_⟩
    rw [he] at hR ⊢
    simpa [Value.cells] using hR
  obtain ⟨x1, h1, hv1⟩ : ∃ x, RV W (fun _ => True) x v1.cells.toList ∧ v1 = .agg v1.cells.toList.toArray := by
    obtain ⟨m, hm⟩ := t1
    obtain ⟨x, hR⟩ := opensV m m (Nat.le_refl _) _ _ hm hw1
    exact ⟨x, hR, agg_of_cells rfl (by obtain ⟨_, _, _, _, he, _⟩ := hR.wide; rw [he]; simp)⟩
  have hcall := EntriesAll_calls x0 x1 _ _ _ _ W (by obtain ⟨_, he, hs⟩ := h0; injection he with he; subst he; exact hs) h1 T
  rw [← hv1] at hcall
  refine hcall.mono fun e W' ⟨he, bel⟩ => ?_
  subst he
  exact ⟨_, rfl, _, _, _, [], _, [], hW', trodAll_mk1 (shut_bool Tryd.underlying4 _), (trodAll_cons_mk (Below.trod laidOut (by kernel_rfl) (of_decide_eq_true (by kernel_rfl)) k0 bel lt0) (trodAll_cons_mk (Below.trod laidOut (by kernel_rfl) (of_decide_eq_true (by kernel_rfl)) k1 bel lt1) trodAll_mk0)), rfl, bel.frame _, fun h => by cases h⟩

theorem reads (os : Os) {H : Type} (enc : TypeId × Value → H) : ∃ places, DataW.whole enc Tryd.prog ((laidWorld os).forCall (fun _ _ => 0) ⟨#[], #[.slice none 0 0, .agg #[.int .i64 0, .int .i64 0, .string ⟨#[]⟩, .slice none 0 0, .slice none 0 0]], []⟩).memory Tryd.f6.params.toList Rows.entriesAllSpec.vars false #[.slice none 0 0, .agg #[.int .i64 0, .int .i64 0, .string ⟨#[]⟩, .slice none 0 0, .slice none 0 0]].toList 8 = some ([.nil, .agg [.lit (.int .i64 0), .lit (.int .i64 0), .lit (.string []), .nil, .nil]], [], places) :=
  ⟨[], by kernel_rfl⟩

set_option maxRecDepth 100000 in
theorem lifted (os : Os) (started : os.Started) (H : Type) (enc : TypeId × Value → H) (F : Stop.Interp) :
    ReturnsInHanded {} Tryd.checked os 6 .any ((OpenSpec.ofChange Rows.entriesAllSpec).preRow enc Tryd.prog Tryd.f6 Rows.entriesAllRow.domain false Rows.entriesAllRow.laid) (((OpenSpec.ofChange Rows.entriesAllSpec).at F).post enc Tryd.prog Tryd.f6 false true false false) := by
  obtain ⟨places, hx⟩ := reads os enc
  refine returnsInHanded_of_row (C := Tryd.checked) (s := OpenSpec.ofChange Rows.entriesAllSpec) ownKn started (by kernel_rfl) Tryd.func6
    (witness_row_atRef (enc := enc) (C := Tryd.checked) false (laidWorld os) #[.slice none 0 0, .agg #[.int .i64 0, .int .i64 0, .string ⟨#[]⟩, .slice none 0 0, .slice none 0 0]] rfl (by kernel_rfl) (by kernel_rfl) (by kernel_rfl)
      (OpenSpec.preRow_of_cond 8 hx (by kernel_rfl) (fun k hk => by cases hk) (by kernel_rfl) (laid_met3 os _))) ?_
  intro W base args ds gs before hval hW _ _ hsz hL _ _
  exact contract H enc W base args ds gs before hval hW hsz hL

theorem said : Rows.EntriesAllSaid :=
  OpenClaim.holds_of_cond 6 Tryd.f6 rfl rfl rfl rfl rfl rfl rfl ⟨rfl, rfl, rfl, rfl, rfl⟩ rfl rfl rfl rfl rfl (by kernel_rfl) Tryd.func6 (by kernel_rfl)
    (of_decide_eq_true (by kernel_rfl)) (by unfold Func.isWrapper; first | (rw [if_pos (by decide +kernel)]; kernel_rfl) | (rw [if_neg (by decide +kernel)]; exact ⟨rfl, rfl⟩))
    (fun os started H enc _ F => by rw [OpenClaim.pre_eq_preRow]; exact lifted os started H enc F)

theorem plain (f : FuncId) (fn : Func) (hf : Tryd.pinned.checked.prog.funcNamed "muniment/munimentlaw17.EntriesAll" = some f) (hfn : Tryd.pinned.checked.prog.funcs[f]? = some fn) :
    false = Tryd.pinned.checked.prog.looks [] ∧ ∀ (j : Nat) t, fn.params[j]? = some t → Tryd.pinned.checked.prog.wantsStandIn t = false := by
  obtain rfl : f = 6 := Option.some.inj ((show Tryd.prog.funcNamed "muniment/munimentlaw17.EntriesAll" = some 6 by kernel_rfl).symm.trans hf) |>.symm
  obtain rfl : fn = Tryd.f6 := (Option.some.inj (Tryd.func6.symm.trans hfn)).symm
  refine ⟨by kernel_rfl, fun j t ht => ?_⟩
  rw [Tryd.params6] at ht
  have hm := Array.mem_of_getElem? ht
  simp at hm
  rcases hm with rfl | rfl
  · exact (show Tryd.prog.wantsStandIn 55 = false by kernel_rfl)
  · exact (show Tryd.prog.wantsStandIn 37 = false by kernel_rfl)

/-- ████ THE CARD ████ -/
theorem card : Rows.EntriesAllCardSaid :=
  Claim7.holds_tied_plain_at .later [] _ _ _ _ said (fun _ h => by cases h) (by kernel_rfl) (fun _ h => by cases h) entriesAll_row_tie rfl ⟨rfl, rfl⟩ (by kernel_rfl) rfl plain (by kernel_rfl)
#print axioms card
end Go.Proofs.YtgcbkecpplhknaaDoor.EntriesAll
