/- The card of JsonSame: the law's walk, and the given form around it. -/
import Derived.Test.YtjiokidindnolaaDoorCards
import Derived.Test.YtjiokidindnolaaDoorTie
import Derived.Test.YtjiokidindnolaaDoorOpen
import Derived.Test.YtjiokidindnolaaDoorJLawD
import Derived.WalkKit
import Derived.ProofKit
import Derived.OpenShut
import Derived.Deep.DeepHandedRow
import Derived.Lib.LaidU8T
import GoSem.PinnedTables
import Derived.Carry
import Derived.LaidLaws
set_option linter.unusedVariables false
namespace Go.Proofs.YtjiokidindnolaaDoor.JsonSame
open Go.ChangeShapes Go.WideShapes Go.ChangeAt Go.RowKit Go.Mu

theorem own : ownKnob Tryd.prog.godebug = none := by kernel_rfl
theorem laidOut : laidOutB Tryd.prog = true := by kernel_rfl

theorem agg_of_cells {v : Value} {cs : List Value} (h : v.cells.toList = cs) (hl : 2 ≤ cs.length) : v = .agg cs.toArray := by
  cases v <;> simp [Value.cells] at h <;> subst h <;> first | (simp at hl; done) | simp

/-- What the row's list gives: the library's tables. -/
theorem listed {W : World} (h : laidMetH Tryd.prog Rows.jsonSameRow.laid W) : laidMet Tryd.prog [("math/bits.deBruijn32tab", Rows.laid_math_bits_deBruijn32tab), ("math/bits.deBruijn64tab", Rows.laid_math_bits_deBruijn64tab), ("internal/strconv.uint64pow10", Rows.laid_internal_strconv_uint64pow10), ("unicode/utf8.acceptRanges", Rows.laid_unicode_utf8_acceptRanges), ("unicode/utf8.first", Rows.laid_unicode_utf8_first)] W := h
theorem tabs {W : World} (h : laidMetH Tryd.prog Rows.jsonSameRow.laid W) : Tabs W := by
  have hL := listed h
  have h1 := Lib.laidMet.reads hL (.tail _ (.tail _ (.tail _ (.head _))))
  have h2 := Lib.laidMet.reads hL (.tail _ (.tail _ (.tail _ (.tail _ (.head _)))))
  rw [show (Rows.laid_unicode_utf8_first : DataW Unit) = Lib.firstData by kernel_rfl] at h2
  rw [show (Rows.laid_unicode_utf8_acceptRanges : DataW Unit) = Lib.acceptData by kernel_rfl] at h1
  exact utf8Tabs_of_readsT (U8Types.of196 Tryd.laysValid) ⟨by kernel_rfl, by kernel_rfl, by kernel_rfl, by kernel_rfl, by kernel_rfl, by kernel_rfl, by kernel_rfl⟩ h2 h1
theorem pows {W : World} (h : laidMetH Tryd.prog Rows.jsonSameRow.laid W) : PT W := by
  obtain ⟨g, t, cs, fuel, p, hg, ht, hvar, hd⟩ := Lib.laidMet.reads (listed h) (.tail _ (.tail _ (.head _)))
  rw [show (Rows.laid_internal_strconv_uint64pow10 : DataW Unit) = Lib.tabData .u64 Lib.pow10Tab by kernel_rfl] at hd
  have hg' : Tryd.prog.globalNamed "internal/strconv.uint64pow10" = some 2 := by kernel_rfl
  obtain rfl := Option.some.inj (hg'.symm.trans hg)
  have ht' : (Tryd.prog.globals[2]?).map (·.type) = some 80 := by kernel_rfl
  obtain rfl := Option.some.inj (ht'.symm.trans ht)
  unfold PT Lib.TabIs
  rw [hvar, ← Lib.cells_of_tab Tryd.underlying80 Tryd.underlying73 (by kernel_rfl) (by kernel_rfl) hd]

theorem lt_of_pows {W : World} (h : PT W) : 2 < W.heap.size :=
  World.block_lt_of_cell? W ⟨2, 0, none⟩ (Lib.TabIs.cell h (by kernel_rfl) 0 (by decide))

theorem opens {H : Type} {enc : TypeId × Value → H} {W : World} (n : Nat) : Opens enc Tryd.prog W n 25 (RV W (fun _ => True)) :=
  opens_V (fun _ _ => trivial) Tryd.underlying25 (by kernel_rfl) ⟨rfl, rfl⟩ ⟨rfl, rfl⟩ ⟨rfl, rfl⟩ ⟨rfl, rfl⟩ ⟨rfl, rfl⟩ (by kernel_rfl) (by kernel_rfl) (by kernel_rfl) (by kernel_rfl) (by kernel_rfl) (by kernel_rfl) (by kernel_rfl) (by kernel_rfl) (by kernel_rfl) (by kernel_rfl) (of_decide_eq_true (by kernel_rfl)) (of_decide_eq_true (by kernel_rfl)) n

theorem contract (H : Type) (enc : TypeId × Value → H) (W : World) (base : Nat) (args : Array Value) (ds gs : List (DataW H)) (before : List MemPlace)
    (hval : ∀ (j : Nat) t v, Tryd.f6.params[j]? = some t → args[j]? = some v → Value.okWide Tryd.prog W .any base t v)
    (hW : DataW.Whole enc Tryd.prog Tryd.f6.params.toList Rows.jsonSameSpec.vars false W args.toList ds gs before)
    (hsz : (DataW.weightsEach Tryd.prog (Tryd.f6.params.toList ++ Rows.jsonSameSpec.plain.varTypes Tryd.prog) (ds ++ gs)).all (· ≤ reachBytes) = true)
    (hL : laidMetH Tryd.prog Rows.jsonSameRow.laid W) :
    Calls Tryd.prog 6 args W fun e W' => ∃ v, e = .returned v ∧ Rows.jsonSameSpec.post enc Tryd.prog Tryd.f6 false true false false W args v W' := by
  have hW' := hW
  obtain ⟨p, q, hA0, hV, rfl, hfz, hnd⟩ := hW
  have hA : DataW.TrodAll enc Tryd.prog W 0 (fun _ => true) true Tryd.f6.params.toList args.toList ds p := hA0
  rw [Tryd.params6] at hA
  obtain ⟨v0, vs0, d0, ds0, p0, q0, hargs, rfl, rfl, h0, r0⟩ := trodAll_cons hA
  obtain ⟨v1, vs1, d1, ds1, p1, q1, rfl, rfl, rfl, h1, r1⟩ := trodAll_cons r0
  obtain ⟨rfl, rfl, rfl⟩ := trodAll_nil r1
  obtain rfl : args = #[v0, v1] := by cases args; simp_all
  obtain ⟨rfl, rfl⟩ := trodVars_none hV
  have hw0 : ∀ k ∈ d0.weights Tryd.prog 25, k ≤ reachBytes := fun k hk => by
    have h1 := List.all_eq_true.1 hsz k (DataW.weights_mem_each (j := 0) (t := 25) (d := d0) rfl rfl k hk)
    simpa using h1
  have hw1 : ∀ k ∈ d1.weights Tryd.prog 25, k ≤ reachBytes := fun k hk => by
    have h1 := List.all_eq_true.1 hsz k (DataW.weights_mem_each (j := 1) (t := 25) (d := d1) rfl rfl k hk)
    simpa using h1
  have k0 := h0
  have k1 := h1
  have lt1 : ∀ x ∈ p1, x.block < W.heap.size := by obtain ⟨m, hm⟩ := h1; exact DataW.trod_lt m _ _ _ hm
  have lt0 : ∀ x ∈ p0, x.block < W.heap.size := by obtain ⟨m, hm⟩ := h0; exact DataW.trod_lt m _ _ _ hm
  obtain ⟨m, hm⟩ := h0
  obtain ⟨v, hR⟩ := opens m m (Nat.le_refl _) _ _ hm hw0
  have hv0 : v0 = .agg v0.cells.toList.toArray := agg_of_cells rfl (by obtain ⟨_, _, _, _, he, _⟩ := hR.wide; rw [he]; simp)
  obtain ⟨m1, hm1⟩ := h1
  obtain ⟨v', hR1⟩ := opens m1 m1 (Nat.le_refl _) _ _ hm1 hw1
  have hv1 : v1 = .agg v1.cells.toList.toArray := agg_of_cells rfl (by obtain ⟨_, _, _, _, he, _⟩ := hR1.wide; rw [he]; simp)
  have hcall := JsonSame_calls v v' _ _ _ _ W hR hR1 (tabs hL) (pows hL) (lt_of_pows (pows hL))
  rw [← hv0, ← hv1] at hcall
  refine hcall.mono fun e W' ⟨he, bel⟩ => ?_
  subst he
  exact ⟨_, rfl, _, _, _, [], _, [], hW', trodAll_mk1 (shut_bool Tryd.underlying4 _), (trodAll_cons_mk (Below.trod laidOut (by kernel_rfl) (of_decide_eq_true (by kernel_rfl)) k0 bel lt0) (trodAll_cons_mk (Below.trod laidOut (by kernel_rfl) (of_decide_eq_true (by kernel_rfl)) k1 bel lt1) trodAll_mk0)), rfl, bel.frame _, fun h => by cases h⟩

/-- The cells of a table of integers. -/
def vals : DataW Unit → List Value
  | .agg l => l.map fun | .lit (.int k n) => .int k n | _ => .nilIface
  | _ => []
/-- A world for the witness: the settled one, the two tables holding what their initialisers lay. -/
noncomputable def laidWorld (os : Os) : World :=
  let put (cs : List Value) : Obj → Obj := fun
    | .cells _ t frozen => .cells cs.toArray t frozen
    | o => o
  let w0 := World.holding Tryd.prog os ⟨#[], #[], []⟩
  { w0 with heap := (w0.heap.modify 0 (put ((List.range 256).map fun i => .int .u8 (Lib.firstT i)))).modify 1 (put ((List.range 16).flatMap fun i => [.int .u8 (Lib.accLo i), .int .u8 (Lib.accHi i)])) |>.modify 2 (put (Lib.pow10Tab.map fun n => .int .u64 n)) |>.modify 4 (put (vals Rows.laid_math_bits_deBruijn32tab)) |>.modify 5 (put (vals Rows.laid_math_bits_deBruijn64tab)) }
noncomputable def zeroArg : Value := .agg #[.int .i64 0, .int .i64 0, .string ⟨#[]⟩, .slice none 0 0, .slice none 0 0]
theorem laid_met (os : Os) : laidMet Tryd.prog Rows.jsonSameRow.laid ((laidWorld os).forCall (fun _ _ => 0) ⟨#[], #[zeroArg, zeroArg], []⟩).memory :=
  laidMet_of_run' 8 (by kernel_rfl) (by kernel_rfl)
theorem reads (os : Os) {H : Type} (enc : TypeId × Value → H) : ∃ places, DataW.whole enc Tryd.prog ((laidWorld os).forCall (fun _ _ => 0) ⟨#[], #[zeroArg, zeroArg], []⟩).memory Tryd.f6.params.toList Rows.jsonSameSpec.vars false #[zeroArg, zeroArg].toList 8 = some ([.agg [.lit (.int .i64 0), .lit (.int .i64 0), .lit (.string []), .nil, .nil], .agg [.lit (.int .i64 0), .lit (.int .i64 0), .lit (.string []), .nil, .nil]], [], places) :=
  ⟨[], by kernel_rfl⟩

set_option maxRecDepth 100000 in
theorem lifted (os : Os) (started : os.Started) (H : Type) (enc : TypeId × Value → H) (F : Stop.Interp) :
    ReturnsInHanded {} Tryd.checked os 6 .any ((OpenSpec.ofChange Rows.jsonSameSpec).preRow enc Tryd.prog Tryd.f6 Rows.jsonSameRow.domain false Rows.jsonSameRow.laid) (((OpenSpec.ofChange Rows.jsonSameSpec).at F).post enc Tryd.prog Tryd.f6 false true false false) := by
  obtain ⟨places, hx⟩ := reads os enc
  refine returnsInHanded_of_row (C := Tryd.checked) (s := OpenSpec.ofChange Rows.jsonSameSpec) own started (by kernel_rfl) Tryd.func6
    (witness_row_at (enc := enc) (C := Tryd.checked) false (laidWorld os) #[zeroArg, zeroArg] rfl (by kernel_rfl) (by kernel_rfl) (by kernel_rfl)
      (OpenSpec.preRow_of_cond 8 hx (by kernel_rfl) (fun k hk => by cases hk) (by kernel_rfl) (laid_met os))) ?_
  intro W base args ds gs before hval hW _ _ hsz hL _ _
  exact contract H enc W base args ds gs before hval hW hsz hL

theorem said : Rows.JsonSameSaid :=
  OpenClaim.holds_of_cond 6 Tryd.f6 rfl rfl rfl rfl rfl rfl rfl ⟨rfl, rfl, rfl, rfl, rfl⟩ rfl rfl rfl rfl rfl (by kernel_rfl) Tryd.func6 (by kernel_rfl)
    (of_decide_eq_true (by kernel_rfl)) (by unfold Func.isWrapper; first | (rw [if_pos (by decide +kernel)]; kernel_rfl) | (rw [if_neg (by decide +kernel)]; exact ⟨rfl, rfl⟩))
    (fun os started H enc _ F => by rw [OpenClaim.pre_eq_preRow]; exact lifted os started H enc F)

theorem plain (f : FuncId) (fn : Func) (hf : Tryd.pinned.checked.prog.funcNamed "muniment/munimentlaw01.JsonSame" = some f) (hfn : Tryd.pinned.checked.prog.funcs[f]? = some fn) :
    false = Tryd.pinned.checked.prog.looks [] ∧ ∀ (j : Nat) t, fn.params[j]? = some t → Tryd.pinned.checked.prog.wantsStandIn t = false := by
  obtain rfl : f = 6 := Option.some.inj ((show Tryd.prog.funcNamed "muniment/munimentlaw01.JsonSame" = some 6 by kernel_rfl).symm.trans hf) |>.symm
  obtain rfl : fn = Tryd.f6 := (Option.some.inj (Tryd.func6.symm.trans hfn)).symm
  refine ⟨by kernel_rfl, fun j t ht => ?_⟩
  rw [Tryd.params6] at ht
  have hm := Array.mem_of_getElem? ht
  simp at hm
  subst hm
  exact (show Tryd.prog.wantsStandIn 25 = false by kernel_rfl)

/-- ████ THE CARD ████ -/
theorem card : Rows.JsonSameCardSaid :=
  Claim7.holds_tied_plain_at .later [] _ _ _ _ said (fun _ h => by cases h) (by kernel_rfl) (fun _ h => by cases h) jsonSame_row_tie rfl ⟨rfl, rfl⟩ (by kernel_rfl) rfl plain (by kernel_rfl)
#print axioms card
end Go.Proofs.YtjiokidindnolaaDoor.JsonSame
