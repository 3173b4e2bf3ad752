/- Walks: Parse of indexes, of the program. -/
import Derived.Test.YtgcbkecpplhknaaDoorEShowW
import Derived.Test.YtgcbkecpplhknaaDoorJSameX
import Derived.Deep.RegionHeld3
import Derived.Deep.DrawnRows


import Derived.WalkKit
import Derived.Deep.QuietTactic
import Derived.BigQuiet
import Derived.Outline
import Derived.Deep.DeepMust
import Derived.Deep.CutBlock
import Derived.Deep.DeepCutAuto
import Derived.Deep.RegionWith
import Derived.WalkSpells
import Derived.WalkLawsBesides
import Derived.Test.YtgcbkecpplhknaaDoorMu
import Derived.Test.YtgcbkecpplhknaaDoorProg
set_option linter.unusedVariables false
set_option linter.unusedSimpArgs false
namespace Go.Proofs.YtgcbkecpplhknaaDoor
open Go.RowKit Go.Mu
attribute [local go_sem ↓] Go.wp_at_zero Go.wp_at_succ

theorem fld_info : ∃ i, Tryd.prog.info? 65 = some i ∧ i.zero = some (.agg #[.string ⟨#[]⟩, .bool false]) ∧ i.size = 2 ∧ i.bytes = 24 := by
  have h : (Tryd.prog.info? 65).map (fun i => (i.zero, i.size, i.bytes)) = some (some (.agg #[.string ⟨#[]⟩, .bool false]), 2, 24) := by kernel_rfl
  obtain ⟨i, hi, he⟩ := Option.map_eq_some_iff.1 h
  injection he with h1 h2
  injection h2 with h2 h3
  exact ⟨i, hi, h1, h2, h3⟩
theorem cut_eq (s : ByteArray) : cutF s = ⟨⟨(Lib.trimPrefix s.data.toList [45]).toArray⟩, Lib.hasPrefix s.data.toList [45]⟩ := by
  unfold cutF Lib.trimPrefix Lib.hasPrefix
  cases hl : s.data.toList with
  | nil =>
    simp only [List.head?_nil, reduceCtorEq, if_false]
    have : s = ⟨#[]⟩ := by rw [← bs_of s, hl]; rfl
    rw [this]; rfl
  | cons a t =>
    simp only [List.head?_cons, Option.some.injEq]
    by_cases ha : a = 45
    · subst ha
      have hp : ([45] : List UInt8).isPrefixOf (45 :: t) = true := by simp [List.isPrefixOf]
      rw [if_pos rfl, hp, if_pos rfl]
      congr 1
      have h1 : (s.extract 1 s.size).data.toList = t := by
        rw [ByteArray.data_extract, Array.toList_extract]
        have hs : s.size = t.length + 1 := by show s.data.toList.length = _; rw [hl]; rfl
        simp [List.extract, hl, hs]
      rw [← bs_of (s.extract 1 s.size), h1]; rfl
    · have hp : ([45] : List UInt8).isPrefixOf (a :: t) = false := by simp [List.isPrefixOf]; exact fun h => ha h.symm
      rw [if_neg ha, hp]
      simp only [Bool.false_eq_true, if_false]
      congr 1
      first | (rw [← hl]; exact (bs_of s).symm) | (rw [← hl]; done)
theorem cut_size (s : ByteArray) : (cutF s).path.size ≤ s.size := by
  unfold cutF
  split
  · simp only []; rw [ByteArray.size_extract]; omega
  · exact Nat.le_refl _
theorem cut_calls (s : ByteArray) (w : World) : Calls Tryd.prog 50 #[.string s, .string ⟨#[45]⟩] w fun e w' => e = .returned (.tuple #[.string (cutF s).path, .bool (cutF s).down]) ∧ w' = w := by
  have h := Tryd.strings_CutPrefix s ⟨#[45]⟩ w
  rw [show (⟨#[45]⟩ : ByteArray).data.toList = [45] from rfl] at h
  rw [cut_eq s]
  exact h

theorem parse_no {v : JV} (h : ∀ x, showX x ≠ v) : parseX v = none := by
  unfold parseX parseWith
  rw [if_neg]
  rintro ⟨_, _, h3⟩
  exact h _ (@of_decide_eq_true _ (Classical.propDecidable _) h3)
theorem parse_bad {v : JV} (h : formX (candX v) = false) : parseX v = none := by
  unfold parseX parseWith
  rw [if_neg]; rintro ⟨_, h2, _⟩; rw [h] at h2; cases h2
theorem parse_diff {v : JV} (h : sameS v (showX (candX v)) = false) : parseX v = none := by
  unfold parseX parseWith
  rw [if_neg]; rintro ⟨_, _, h3⟩
  have h4 : showX (candX v) = v := @of_decide_eq_true _ (Classical.propDecidable _) h3
  rw [h4, sameS_true rfl] at h; cases h
theorem parse_yes {v : JV} (hl : v.items.length = 3) (h1 : formX (candX v) = true) (h2 : sameS v (showX (candX v)) = true) : parseX v = some (candX v) := by
  unfold parseX parseWith
  rw [if_pos ⟨hl, h1, @decide_eq_true _ (Classical.propDecidable _) (sameS_eq h2).symm⟩]

/-- What Parse leaves. -/
def ParseQ (v : JV) (w : World) (e : Ending) (w' : World) : Prop :=
  Below w.heap.size w w' ∧ match parseX v with
  | none => e = .returned (.tuple #[.agg #[.string ⟨#[]⟩, .slice none 0 0, .bool false], .int .i64 2])
  | some x => ∃ cs, e = .returned (.tuple #[.agg cs.toArray, .int .i64 0]) ∧ rIX.R w' (fun _ => True) x cs
theorem parseQ_none {v : JV} {w w' : World} (h : parseX v = none) (hb : Below w.heap.size w w') : ParseQ v w (.returned (.tuple #[.agg #[.string ⟨#[]⟩, .slice none 0 0, .bool false], .int .i64 2])) w' := ⟨hb, by rw [h]⟩
theorem below_res3 {B g : Nat} {w wr : World} (h : Below B w wr) (hg : B ≤ g) (u0 u1 u2 : Value) : Below B w (((wr.setCell ⟨g, 0, none⟩ u0).setCell ⟨g, 1, none⟩ u1).setCell ⟨g, 2, none⟩ u2) :=
  ((h.setCell (p := ⟨g, 0, none⟩) hg u0).setCell (p := ⟨g, 1, none⟩) hg u1).setCell (p := ⟨g, 2, none⟩) hg u2

def lits : List ByteArray := [nmFields, nmName, nmUnique]
theorem lits_slice (W : World) : SliceR (rStr.R (W.alloc (.cells #[.string ⟨#[102, 105, 101, 108, 100, 115]⟩, .string ⟨#[110, 97, 109, 101]⟩, .string ⟨#[117, 110, 105, 113, 117, 101]⟩] 9)) (fun _ => True)) 1 (W.alloc (.cells #[.string ⟨#[102, 105, 101, 108, 100, 115]⟩, .string ⟨#[110, 97, 109, 101]⟩, .string ⟨#[117, 110, 105, 113, 117, 101]⟩] 9)) (fun _ => True) lits (.slice (some ⟨W.heap.size, 0, none⟩) lits.length 3) :=
  SliceR.ofBlk (r := rStr) (xs := lits) [[.string nmFields], [.string nmName], [.string nmUnique]] rfl
    (fun j x cs hx hc => by
      match j, hx, hc with
      | 0, hx, hc => simp [lits] at hx hc; subst hx hc; exact ⟨rfl, by decide⟩
      | 1, hx, hc => simp [lits] at hx hc; subst hx hc; exact ⟨rfl, by decide⟩
      | 2, hx, hc => simp [lits] at hx hc; subst hx hc; exact ⟨rfl, by decide⟩
      | j + 3, hx, hc => simp [lits] at hx) (Blk.new W 9 [.string nmFields, .string nmName, .string nmUnique]) trivial (by decide)


set_option maxRecDepth 100000 in
set_option maxHeartbeats 8000000 in
/-- The ways on which it is refused at once. -/
theorem Parse_bad (v : JV) (cs : List Value) (S : Blocks) (w : World) (h : RV w S v cs) (hbad : v.kind ≠ 6 ∨ (v.kind = 6 ∧ namesEq v.names lits = false) ∨ (v.kind = 6 ∧ namesEq v.names lits = true ∧ v.items.length ≠ 3)) :
    Calls Tryd.prog 20 #[.agg cs.toArray] w (ParseQ v w) := by
  have hnone : parseX v = none := by
    apply parse_no
    intro x hx
    rcases hbad with h1 | ⟨h1, h2⟩ | ⟨h1, h2, h3⟩
    · exact h1 (by rw [← hx]; rfl)
    · have : v.names = lits := by rw [← hx]; rfl
      unfold namesEq at h2
      rw [decide_eq_false_iff_not] at h2
      exact h2 this
    · exact h3 (by rw [← hx]; rfl)
  have HQ := K.mk hnone
  obtain ⟨An, cn, Ai, ci, rfl, hnm, hit, hk, hn, ht⟩ := h.wide
  have HE : K (∀ (W : World) (n : Nat), W.heap.size = n → Below w.heap.size w W → Calls Tryd.prog 49 #[.slice An v.names.length cn, .slice (some ⟨n, 0, none⟩) 3 3] (W.alloc (.cells #[.string ⟨#[102, 105, 101, 108, 100, 115]⟩, .string ⟨#[110, 97, 109, 101]⟩, .string ⟨#[117, 110, 105, 113, 117, 101]⟩] 9)) fun e w' => e = .returned (.bool (namesEq v.names lits)) ∧ Below (W.heap.size + 1) (W.alloc (.cells #[.string ⟨#[102, 105, 101, 108, 100, 115]⟩, .string ⟨#[110, 97, 109, 101]⟩, .string ⟨#[117, 110, 105, 113, 117, 101]⟩] 9)) w') := ⟨fun W n hn hW => by
    subst hn
    have h := eqNames_calls v.names lits An (some ⟨W.heap.size, 0, none⟩) cn 3 S (fun _ => True) _ (hnm.imp (fun b hs hlt => ⟨(hW.alloc hW.size (.cells #[.string ⟨#[102, 105, 101, 108, 100, 115]⟩, .string ⟨#[110, 97, 109, 101]⟩, .string ⟨#[117, 110, 105, 113, 117, 101]⟩] 9)).block b hlt, hs⟩) (fun x _ cs hr => hr)) (lits_slice W)
    rw [World.size_alloc] at h
    exact h⟩
  have hil := hit.len_le
  clear hnone hnm hit h
  rcases hbad with h1 | ⟨h1, h2⟩ | ⟨h1, h2, h3⟩
  · have q1 : (v.kind != 6) = true := bne_tt h1
    have q2 : (v.kind == 6) = false := beq_ff h1
    clear h1
    go_enter Tryd.func20, Tryd.ntmps20
    go_wp2_with fail
    refine bodyPost_ret (v := .tuple #[.agg #[.string ⟨#[]⟩, .slice none 0 0, .bool false], .int .i64 2]) (by simp [results, Tryd.results20, go_sem]) rfl (parseQ_none HQ.o ?_)
    first | exact below_a2 _ _ _ | exact below_res3 (below_a2 _ _ _) (by simp) _ _ _
  · have q1 : (v.kind != 6) = false := bne_ff h1
    rw [h2] at HE
    clear h1 h2
    go_enter Tryd.func20, Tryd.ntmps20
    go_wp2_with (go_at_call 49; go_must (with_reducible refine (HE.o _ _ (by simp) (below_a2 _ _ _)).mono ?_); rintro e w1 ⟨rfl, hb1⟩; have HR := K.mk (((Blk.new2 _ _ _ _).alloc _).below hb1 (by simp)); have HB := K.mk ((below_a3 _ _ _ _).trans (hb1.mono (by simp; omega))); clear hb1; obtain ⟨r0, r1, r2⟩ := HR.o.three; have f0 := HR.o.frozen 0; have f1 := HR.o.frozen 1; have f2 := HR.o.frozen 2)
    refine bodyPost_ret (v := .tuple #[.agg #[.string ⟨#[]⟩, .slice none 0 0, .bool false], .int .i64 2]) (by simp [results, Tryd.results20, go_sem, r0, r1, r2, HR.o.lt]) rfl (parseQ_none HQ.o ?_)
    exact below_res3 HB.o (by simp) _ _ _
  · have q1 : (v.kind != 6) = false := bne_ff h1
    have q3 : ((v.items.length : Int) != 3) = true := bne_tt (by omega)
    rw [h2] at HE
    clear h1 h2 h3
    go_enter Tryd.func20, Tryd.ntmps20
    go_wp2_with (go_at_call 49; go_must (with_reducible refine (HE.o _ _ (by simp) (below_a2 _ _ _)).mono ?_); rintro e w1 ⟨rfl, hb1⟩; have HR := K.mk (((Blk.new2 _ _ _ _).alloc _).below hb1 (by simp)); have HV := K.mk (((Blk.new1 _ _ _ _).alloc _).below hb1 (by simp; omega)); have HB := K.mk ((below_a3 _ _ _ _).trans (hb1.mono (by simp; omega))); clear hb1; have v4 := HV.o.cell 4 rfl; obtain ⟨r0, r1, r2⟩ := HR.o.three; have f0 := HR.o.frozen 0; have f1 := HR.o.frozen 1; have f2 := HR.o.frozen 2)
    refine bodyPost_ret (v := .tuple #[.agg #[.string ⟨#[]⟩, .slice none 0 0, .bool false], .int .i64 2]) (by simp [results, Tryd.results20, go_sem, r0, r1, r2, HR.o.lt]) rfl (parseQ_none HQ.o ?_)
    exact below_res3 HB.o (by simp) _ _ _
end Go.Proofs.YtgcbkecpplhknaaDoor
