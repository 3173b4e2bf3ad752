/- Walks: what lies at a path, of the reference. -/
import Derived.Test.YtgcbkecpplhknaaDoorEKeyNL
import Derived.Test.YtgcbkecpplhknaaDoorESteps
import Derived.Test.YtgcbkecpplhknaaDoorJRefC
import Derived.Test.YtgcbkecpplhknaaDoorEShowW
import Derived.Deep.RegionHeld3
import Derived.Deep.DrawnRows


import Derived.WalkKit
import Derived.Deep.QuietTactic
import Derived.BigQuiet
import Derived.Outline
import Derived.Deep.DeepMust
import Derived.Deep.CutBlock
import Derived.Deep.DeepCutAuto
import Derived.Deep.RegionWith
import Derived.WalkSpells
import Derived.WalkLawsBesides
import Derived.Test.YtgcbkecpplhknaaDoorMu
import Derived.Test.YtgcbkecpplhknaaDoorProg
set_option linter.unusedVariables false
set_option linter.unusedSimpArgs false
namespace Go.Proofs.YtgcbkecpplhknaaDoor
open Go.RowKit Go.Mu
attribute [local go_sem ↓] Go.wp_at_zero Go.wp_at_succ

/-- What Get leaves. -/
def GetQ (v : JV) (p : ByteArray) (S : Blocks) (w : World) (e : Ending) (w' : World) : Prop :=
  Below w.heap.size w w' ∧ match getS v p with
  | none => e = .returned (.tuple #[.agg zeroC.toArray, .bool false])
  | some x => ∃ cs, e = .returned (.tuple #[.agg cs.toArray, .bool true]) ∧ RV w' S x cs
theorem getQ_none {v : JV} {p : ByteArray} {S : Blocks} {w w' : World} (h : getS v p = none) (hb : Below w.heap.size w w') : GetQ v p S w (.returned (.tuple #[.agg zeroC.toArray, .bool false])) w' := ⟨hb, by rw [h]⟩
theorem stepsQ_no {s : ByteArray} {w w' : World} {e : Ending} (hs : stepsS s = none) (h : StepsQ s w e w') : e = .returned (.tuple #[.slice none 0 0, .int .i64 2]) ∧ Below w.heap.size w w' := by
  unfold StepsQ at h; rw [hs] at h; exact ⟨h.2, h.1⟩
theorem stepsQ_yes {s : ByteArray} {l : List ByteArray} {w w' : World} {e : Ending} (hs : stepsS s = some l) (h : StepsQ s w e w') : ∃ A c, e = .returned (.tuple #[.slice A l.length c, .int .i64 0]) ∧ OwnL rStr 9 w.heap.size w' l (.slice A l.length c) ∧ l.length ≤ 4 ∧ Below w.heap.size w w' := by
  unfold StepsQ at h; rw [hs] at h
  obtain ⟨hb, v, h1, h2, h3⟩ := h
  obtain ⟨A, c, rfl⟩ := h2.form
  exact ⟨A, c, h1, h2, h3, hb⟩

set_option maxRecDepth 100000 in
set_option maxHeartbeats 4000000 in
theorem refGet_no (v : JV) (p : ByteArray) (hp : p.size ≤ strMax) (cs : List Value) (S : Blocks) (w : World) (h : RV w S v cs) (hT : Tabs w) (hbad : stepsS p = none) : Calls Tryd.prog 55 #[.agg cs.toArray, .string p] w (GetQ v p S w) := by
  have HQ := K.mk (get_nostep (v := v) hbad)
  have HS := K.mk (fun W (hW : Below w.heap.size w W) => (ref_Steps_calls p hp W (hT.below hW)).mono fun e w' hh => stepsQ_no hbad hh)
  obtain ⟨An, cn, Ai, ci, rfl, hnm, hit, hk, hn, ht⟩ := h.wide
  clear hnm hit h hT hbad
  go_enter Tryd.func55, Tryd.ntmps55
  go_wp2_with (go_at_call 44; go_must (refine (HS.o _ (below_a2 _ _ _)).mono ?_); rintro e w1 ⟨rfl, hb1⟩; have HR := K.mk ((Blk.new2 _ _ _ _).below hb1 (by simp)); have HB := K.mk (below2 (below_a2 _ _ _) hb1); obtain ⟨r0, r1, r2, r3, r4⟩ := HR.o.five; have f0 := HR.o.frozen 0; have f1 := HR.o.frozen 1; have f2 := HR.o.frozen 2; have f3 := HR.o.frozen 3; have f4 := HR.o.frozen 4; clear hb1)
  refine bodyPost_ret (v := .tuple #[.agg zeroC.toArray, .bool false]) (by simp [zeroC, results, Tryd.results55, go_sem, r0, r1, r2, r3, r4, HR.o.lt]) rfl (getQ_none HQ.o ?_)
  exact below_res HB.o (by simp) _ _ _ _ _

set_option maxRecDepth 100000 in
set_option maxHeartbeats 4000000 in
theorem refGet_bad (v : JV) (p : ByteArray) (hp : p.size ≤ strMax) (cs : List Value) (S : Blocks) (w : World) (h : RV w S v cs) (hT : Tabs w) (l : List ByteArray) (hl : stepsS p = some l) (hf : formS 6 v = false) : Calls Tryd.prog 55 #[.agg cs.toArray, .string p] w (GetQ v p S w) := by
  have HQ := K.mk (get_noform (p := p) hf)
  have HS := K.mk (fun W (hW : Below w.heap.size w W) => (ref_Steps_calls p hp W (hT.below hW)).mono fun e w' hh => stepsQ_yes hl hh)
  have HF := K.mk (fun W (hW : Below w.heap.size w W) => ref_Formed_calls v cs S W (rV.below h hW))
  rw [hf] at HF
  obtain ⟨An, cn, Ai, ci, rfl, hnm, hit, hk, hn, ht⟩ := h.wide
  clear hnm hit h hT hf
  go_enter Tryd.func55, Tryd.ntmps55
  go_wp2_with (first
    | (go_at_call 44; go_must (refine (HS.o _ (below_a2 _ _ _)).mono ?_); rintro e w1 ⟨A, c, rfl, HO, hl4, hb1⟩; have HR := K.mk ((Blk.new2 _ _ _ _).below hb1 (by simp)); have HV := K.mk ((Blk.new1 _ _ _ _).below hb1 (by simp; omega)); have HB := K.mk (below2 (below_a2 _ _ _) hb1); obtain ⟨v0, v1, v2, v3, v4⟩ := HV.o.five; clear hb1 HO)
    | (go_at_call 54; go_must (refine (HF.o _ HB.o).mono ?_); rintro e w2 ⟨rfl, hb2⟩; have HR2 := K.mk (HR.o.below hb2 HR.o.lt); have HB2 := K.mk (below2 HB.o hb2); obtain ⟨r0, r1, r2, r3, r4⟩ := HR2.o.five; have f0 := HR2.o.frozen 0; have f1 := HR2.o.frozen 1; have f2 := HR2.o.frozen 2; have f3 := HR2.o.frozen 3; have f4 := HR2.o.frozen 4; clear hb2))
  refine bodyPost_ret (v := .tuple #[.agg zeroC.toArray, .bool false]) (by simp [zeroC, results, Tryd.results55, go_sem, r0, r1, r2, r3, r4, HR2.o.lt]) rfl (getQ_none HQ.o ?_)
  exact below_res HB2.o (by simp) _ _ _ _ _

set_option maxRecDepth 100000 in
set_option maxHeartbeats 8000000 in
theorem refGet_ok (v : JV) (p : ByteArray) (hp : p.size ≤ strMax) (cs : List Value) (S : Blocks) (w : World) (h : RV w S v cs) (hT : Tabs w) (l : List ByteArray) (hl : stepsS p = some l) (hf : formS 6 v = true) : Calls Tryd.prog 55 #[.agg cs.toArray, .string p] w (GetQ v p S w) := by
  have HG := K.mk (get_yes hl hf)
  have HFM := K.mk hf
  have HS := K.mk (fun W (hW : Below w.heap.size w W) => (ref_Steps_calls p hp W (hT.below hW)).mono fun e w' hh => stepsQ_yes hl hh)
  have HF := K.mk (fun W (hW : Below w.heap.size w W) => ref_Formed_calls v cs S W (rV.below h hW))
  rw [hf] at HF
  have HRV := K.mk h
  obtain ⟨An, cn, Ai, ci, rfl, hnm, hit, hk, hn, ht⟩ := h.wide
  have HIT := K.mk hit
  clear hnm hit h hT hf hk hn ht
  go_enter Tryd.func55, Tryd.ntmps55
  go_wp2_with (first
    | (go_at_call 44; go_must (refine (HS.o _ (below_a2 _ _ _)).mono ?_); rintro e w1 ⟨A, c, rfl, HO, hl4, hb1⟩; have HO1 := K.mk HO; have HR := K.mk ((Blk.new2 _ _ _ _).below hb1 (by simp)); have HV := K.mk ((Blk.new1 _ _ _ _).below hb1 (by simp; omega)); have HB := K.mk (below2 (below_a2 _ _ _) hb1); obtain ⟨v0, v1, v2, v3, v4⟩ := HV.o.five; clear hb1 HO)
    | (go_at_call 54; go_must (refine (HF.o _ HB.o).mono ?_); rintro e w2 ⟨rfl, hb2⟩; have HR2 := K.mk (HR.o.below hb2 HR.o.lt); have HV2 := K.mk (HV.o.below hb2 HV.o.lt); have HO2 := K.mk (HO1.o.more hb2); have HB2 := K.mk (below2 HB.o hb2); clear hb2 HR HV HO1 HB))
  clear HS HF v0 v1 v2 v3 v4
  go_loopg [8] l.length (fun g s8 wr => ∃ (k m : Nat) (u : JV) (Bn : Option Addr) (dn : Nat) (Bi : Option Addr) (di : Nat), k ≤ l.length ∧ l.length - k ≤ g ∧ s8 = .int .i64 k ∧ K (formS m u = true) ∧ K (getS v p = walkS (l.drop k) u) ∧ K (RV w S u [.int .i64 u.kind, .int .i64 u.num, .string u.text, .slice Bn u.names.length dn, .slice Bi u.items.length di]) ∧ K (Below w.heap.size w wr) ∧ K (Blk wr w.heap.size 37 [.int .i64 u.kind, .int .i64 u.num, .string u.text, .slice Bn u.names.length dn, .slice Bi u.items.length di]) ∧ K (Blk wr (w.heap.size + 1) 37 zeroC) ∧ K (OwnL rStr 9 (w.heap.size + 1 + 1) wr l (.slice A l.length c)) ∧ K (SliceR (RV w S) 5 w S u.items (.slice Bi u.items.length di)))
  case atStart => exact ⟨0, 6, v, An, cn, Ai, ci, Nat.zero_le _, Nat.le_refl _, rfl, HFM, HG, HRV, HB2, HV2, HR2, ⟨by simpa using HO2.o⟩, HIT⟩
  case round =>
    clear HO2 HR2 HV2 HB2 HG HFM HRV HIT
    obtain ⟨k, m, u, Bn, dn, Bi, di, hk, hg, rfl, HFu, HGu, HRu, HB, HV, HR, HO, HI⟩ := hrel
    have hvl := HV.o.lt
    have hrl := HR.o.lt
    have hil := HI.o.len_le
    have HOW := K.mk (fun q (hq : (Value.slice A l.length c).ownBlock = some q) => HO.o.lt q hq)
    rcases Nat.lt_or_ge k l.length with hlt | hge
    · have hlt' : (k : Int) < (l.length : Int) := by omega
      obtain ⟨b, o, x, xcs, hA, _, hb, hx, hRx, hcx⟩ := (HO.o.slice (by unfold strMax; omega)).at1 k hlt
      subst hA
      obtain ⟨rfl, hxs⟩ := hRx
      have HP := K.mk (fun W (hW : Below wr.heap.size wr W) => refPlace_calls u x _ S W (rV.below HRu.o (below2 HB.o hW)))
      have hplt := place_lt (s := x) HFu.o
      have g0 := fun W (hW : Below wr.heap.size wr W) => (HV.o.below hW HV.o.lt).cell 0 rfl
      have g1 := fun W (hW : Below wr.heap.size wr W) => (HV.o.below hW HV.o.lt).cell 1 rfl
      have g2 := fun W (hW : Below wr.heap.size wr W) => (HV.o.below hW HV.o.lt).cell 2 rfl
      have g3 := fun W (hW : Below wr.heap.size wr W) => (HV.o.below hW HV.o.lt).cell 3 rfl
      have g4 := fun W (hW : Below wr.heap.size wr W) => (HV.o.below hW HV.o.lt).cell 4 rfl
      have gs : ∀ W, Below wr.heap.size wr W → W.cell? ⟨b, o + k, none⟩ = some (.string x) := fun W hW => by have := (hcx.below hW) 0 _ rfl; simpa using this
      have HX := K.mk hx
      clear hcx hx
      generalize hq : placeS u x = q at *
      have HPQ := K.mk hq
      clear hq
      by_cases hneg : q < 0
      · have HN := K.mk (HGu.o.trans (walk_no HX.o (by rw [HPQ.o]; exact hneg)))
        go_wp2_with fail
        go_region_held3 (fun w' => Below wr.heap.size wr w') (first | assumption | exact Below.drew (Below.refl _ _) | exact below2 (by assumption) (by assumption))
          (first | (go_at_call 86; refine (HP.o _ (by assumption)).mono ?_; rintro e w5 ⟨rfl, hb5⟩))
        rename_i HD
        have HR5 := K.mk (HR.o.below HD HR.o.lt)
        have HB5 := K.mk (below2 HB.o HD)
        obtain ⟨r0, r1, r2, r3, r4⟩ := HR5.o.five
        have f0 := HR5.o.frozen 0
        have f1 := HR5.o.frozen 1
        have f2 := HR5.o.frozen 2
        have f3 := HR5.o.frozen 3
        have f4 := HR5.o.frozen 4
        clear g0 g1 g2 g3 g4 gs HP
        go_wp2_with fail
        refine bodyPost_ret (v := .tuple #[.agg zeroC.toArray, .bool false]) (by simp [zeroC, results, Tryd.results55, go_sem, r0, r1, r2, r3, r4, HR5.o.lt]) rfl (getQ_none HN.o ?_)
        exact below_res HB5.o (by simp) _ _ _ _ _
      · obtain ⟨j, rfl⟩ : ∃ j : Nat, q = j := ⟨q.toNat, by omega⟩
        have hj : j < u.items.length := by omega
        obtain ⟨bq, oy, y, ycs, hBi, _, hby, hy, hRy, hcy⟩ := HI.o.at j hj
        subst hBi
        obtain ⟨m, rfl⟩ : ∃ m', m = m' + 1 := by
          cases m with
          | zero => exact absurd HFu.o (by unfold formS; simp)
          | succ m => exact ⟨m, rfl⟩
        have HFy := K.mk (form_item HFu.o (List.mem_of_getElem? hy))
        have HGy := K.mk (HGu.o.trans (walk_yes HX.o HPQ.o hy))
        have HRy := K.mk hRy
        have HCY := K.mk hcy
        obtain ⟨yAn, ycn, yAi, yci, rfl, _, hyi, _⟩ := hRy.wide
        have HYI := K.mk hyi
        clear hRy hcy hyi hy
        go_wp2_with fail
        go_region_held3 (fun w' => Below wr.heap.size wr w') (first | assumption | exact Below.drew (Below.refl _ _) | exact below2 (by assumption) (by assumption))
          (first | (go_at_call 86; refine (HP.o _ (by assumption)).mono ?_; rintro e w5 ⟨rfl, hb5⟩))
        rename_i HD
        have HR5 := K.mk (HR.o.below HD HR.o.lt)
        have HB5 := K.mk (below2 HB.o HD)
        have HV5 := K.mk (HV.o.below HD HV.o.lt)
        have HO5 := K.mk (HO.o.more HD)
        obtain ⟨v0, v1, v2, v3, v4⟩ := HV5.o.five
        obtain ⟨c0, c1, c2, c3, c4⟩ := (HCY.o.below HB5.o).five
        have hv5 := HV5.o.lt
        have hby5 : bq < _ := Nat.lt_of_lt_of_le hby HB5.o.size
        have f0 := HV5.o.frozen 0
        have f1 := HV5.o.frozen 1
        have f2 := HV5.o.frozen 2
        have f3 := HV5.o.frozen 3
        have f4 := HV5.o.frozen 4
        clear g0 g1 g2 g3 g4 gs HP
        go_wp2_with fail
        go_roundg (l.length - (k + 1))
        case measure => omega
        case rel => exact ⟨k + 1, m, y, yAn, ycn, yAi, yci, by omega, Nat.le_refl _, by go_num, HFy, HGy, HRy, ⟨below_res HB5.o (Nat.le_refl _) _ _ _ _ _⟩, ⟨((((HV5.o.set 0 _).set 1 _).set 2 _).set 3 _).set 4 _⟩, ⟨HR5.o.res (by omega) _ _ _ _ _⟩, ⟨HO5.o.res flat_str (fun h => by have := (HOW.o _ h).1; omega) _ _ _ _ _⟩, HYI⟩
    · have hlt' : ¬ (k : Int) < (l.length : Int) := by omega
      have HN := K.mk (HGu.o.trans (walk_end (by omega)))
      obtain ⟨v0, v1, v2, v3, v4⟩ := HV.o.five
      obtain ⟨r0, r1, r2, r3, r4⟩ := HR.o.five
      have f0 := HR.o.frozen 0
      have f1 := HR.o.frozen 1
      have f2 := HR.o.frozen 2
      have f3 := HR.o.frozen 3
      have f4 := HR.o.frozen 4
      go_wp2_with fail
      refine bodyPost_ret (v := .tuple #[.agg #[.int .i64 u.kind, .int .i64 u.num, .string u.text, .slice Bn u.names.length dn, .slice Bi u.items.length di], .bool true]) (by simp [results, Tryd.results55, go_sem, r0, r1, r2, r3, r4, HR.o.lt]) rfl ?_
      refine ⟨below_res HB.o (by omega) _ _ _ _ _, ?_⟩
      rw [HN.o]
      exact ⟨_, rfl, rV.below HRu.o (below_res HB.o (by omega) _ _ _ _ _)⟩

theorem refGet_calls (v : JV) (p : ByteArray) (hp : p.size ≤ strMax) (cs : List Value) (S : Blocks) (w : World) (h : RV w S v cs) (hT : Tabs w) : Calls Tryd.prog 55 #[.agg cs.toArray, .string p] w (GetQ v p S w) := by
  cases hl : stepsS p with
  | none => exact refGet_no v p hp cs S w h hT hl
  | some l =>
    cases hf : formS 6 v
    · exact refGet_bad v p hp cs S w h hT l hl hf
    · exact refGet_ok v p hp cs S w h hT l hl hf
end Go.Proofs.YtgcbkecpplhknaaDoor
