/- Walks: Parse of indexes, of the program: the way on which it is read. -/
import Derived.Test.YtgcbkecpplhknaaDoorEParse


import Derived.WalkKit
import Derived.Deep.QuietTactic
import Derived.BigQuiet
import Derived.Outline
import Derived.Deep.DeepMust
import Derived.Deep.CutBlock
import Derived.Deep.DeepCutAuto
import Derived.Deep.RegionWith
import Derived.WalkSpells
import Derived.WalkLawsBesides
import Derived.Test.YtgcbkecpplhknaaDoorMu
import Derived.Test.YtgcbkecpplhknaaDoorProg
set_option linter.unusedVariables false
set_option linter.unusedSimpArgs false
namespace Go.Proofs.YtgcbkecpplhknaaDoor
open Go.RowKit Go.Mu
attribute [local go_sem ↓] Go.wp_at_zero Go.wp_at_succ

theorem candX_of {v a b c : JV} (h : v.items = [a, b, c]) : candX v = ⟨b.text, a.items.map fun x => cutF x.text, decide (c.kind = 2)⟩ := by unfold candX; rw [h]; rfl
theorem Show_no (x : IX) (cs : List Value) (S : Blocks) (w : World) (h : rIX.R w S x cs) (hT : Tabs w) (hq : formX x = false) : Calls Tryd.prog 18 #[.agg cs.toArray] w fun e w' => e = .returned (.tuple #[.agg #[.int .i64 0, .int .i64 0, .string ⟨#[]⟩, .slice none 0 0, .slice none 0 0], .int .i64 2]) ∧ Below w.heap.size w w' :=
  (Show_calls x cs S w h hT).mono fun e w' ⟨hb, h2⟩ => by rw [if_neg (by rw [hq]; simp)] at h2; exact ⟨h2, hb⟩
theorem Show_yes (x : IX) (cs : List Value) (S : Blocks) (w : World) (h : rIX.R w S x cs) (hT : Tabs w) (hq : formX x = true) : Calls Tryd.prog 18 #[.agg cs.toArray] w fun e w' => ∃ cs', e = .returned (.tuple #[.agg cs'.toArray, .int .i64 0]) ∧ RV w' (fun _ => True) (showX x) cs' ∧ Below w.heap.size w w' :=
  (Show_calls x cs S w h hT).mono fun e w' ⟨hb, h2⟩ => by
    rw [if_pos hq] at h2
    obtain ⟨cs', h3, h4⟩ := h2
    exact ⟨cs', h3, h4, hb⟩
theorem res3_cells {w : World} {g : Nat} {t : TypeId} {cs : List Value} (h : Blk w g t cs) (hl : cs.length = 3) (u0 u1 u2 : Value) : Blk (((w.setCell ⟨g, 0, none⟩ u0).setCell ⟨g, 1, none⟩ u1).setCell ⟨g, 2, none⟩ u2) g t [u0, u1, u2] := by
  match cs, hl with
  | [a, b, c], _ => exact ((h.set 0 u0).set 1 u1).set 2 u2
theorem cellsAt0 {w : World} {b o : Nat} {cs : List Value} (h : CellsAt w b (o + 0 * 5) cs) : CellsAt w b o cs := by simpa using h
set_option maxRecDepth 100000 in
set_option maxHeartbeats 8000000 in
theorem Parse_ok (v a b c : JV) (cs : List Value) (S : Blocks) (w : World) (h : RV w S v cs) (hk6 : v.kind = 6) (hnq : namesEq v.names lits = true) (hv3 : v.items = [a, b, c]) (hsmall : a.items.length ≤ 1000) (hT : Tabs w) :
    Calls Tryd.prog 20 #[.agg cs.toArray] w (ParseQ v w) := by
  obtain ⟨i0, hi, hz0, hz1, hz2⟩ := fld_info
  have HT := K.mk hT
  have HRV := K.mk h
  obtain ⟨An, cn, Ai, ci, rfl, hnm, hit, hk, hn, ht⟩ := h.wide
  have HE : K (∀ (W : World) (n : Nat), W.heap.size = n → Below w.heap.size w W → Calls Tryd.prog 49 #[.slice An v.names.length cn, .slice (some ⟨n, 0, none⟩) 3 3] (W.alloc (.cells #[.string ⟨#[102, 105, 101, 108, 100, 115]⟩, .string ⟨#[110, 97, 109, 101]⟩, .string ⟨#[117, 110, 105, 113, 117, 101]⟩] 9)) fun e w' => e = .returned (.bool true) ∧ Below (W.heap.size + 1) (W.alloc (.cells #[.string ⟨#[102, 105, 101, 108, 100, 115]⟩, .string ⟨#[110, 97, 109, 101]⟩, .string ⟨#[117, 110, 105, 113, 117, 101]⟩] 9)) w') := ⟨fun W n hn hW => by
    subst hn
    have h := eqNames_calls v.names lits An (some ⟨W.heap.size, 0, none⟩) cn 3 S (fun _ => True) _ (hnm.imp (fun b hs hlt => ⟨(hW.alloc hW.size (.cells #[.string ⟨#[102, 105, 101, 108, 100, 115]⟩, .string ⟨#[110, 97, 109, 101]⟩, .string ⟨#[117, 110, 105, 113, 117, 101]⟩] 9)).block b hlt, hs⟩) (fun x _ cs hr => hr)) (lits_slice W)
    rw [World.size_alloc, hnq] at h
    exact h⟩
  have hl3 : v.items.length = 3 := by rw [hv3]; rfl
  have HL3 := K.mk hl3
  have HV3 := K.mk hv3
  obtain ⟨bI, oI, a', ca, rfl, hSI, hbI, ha', hRa, hca⟩ := hit.at 0 (by omega)
  obtain ⟨b2, o2, b', cb, he2, _, _, hb', hRb, hcb⟩ := hit.at 1 (by omega)
  obtain ⟨b3, o3, c', cc, he3, _, _, hc', hRc, hcc⟩ := hit.at 2 (by omega)
  injection he2 with he2
  injection he2 with e1 e2
  injection he3 with he3
  injection he3 with e3 e4
  subst e1 e2 e3 e4
  rw [hv3] at ha' hb' hc'
  simp at ha' hb' hc'
  subst ha' hb' hc'
  have hca := cellsAt0 hca
  obtain ⟨aAn, acn, aAi, aci, rfl, _, hai, _⟩ := hRa.wide
  obtain ⟨bAn, bcn, bAi, bci, rfl, _, _, _, _, hbt⟩ := hRb.wide
  obtain ⟨cAn, ccn, cAi, cci, rfl, _, _, hck, _⟩ := hRc.wide
  have HA := K.mk hca
  have HBC := K.mk hcb
  have HCC := K.mk hcc
  have HAI := K.mk hai
  have HBT := K.mk hbt
  have q1 : (v.kind != 6) = false := bne_ff hk6
  rw [hl3]
  clear hnm hit h hRa hRb hRc hca hcb hcc hai hbt hT hl3 hv3 hk6 hnq
  go_enter Tryd.func20, Tryd.ntmps20
  go_wp2_with (go_at_call 49; go_must (with_reducible refine (HE.o _ _ (by simp) (below_a2 _ _ _)).mono ?_); rintro e w1 ⟨rfl, hb1⟩; have HR := K.mk (((Blk.new2 _ _ _ _).alloc _).below hb1 (by simp)); have HV := K.mk (((Blk.new1 _ _ _ _).alloc _).below hb1 (by simp; omega)); have HB := K.mk ((below_a3 _ _ _ _).trans (hb1.mono (by simp; omega))); clear hb1; have v4 := HV.o.cell 4 rfl)
  clear v4
  have g4 : ∀ W, Below w1.heap.size w1 W → W.cell? ⟨w.heap.size, 4, none⟩ = some (.slice (some ⟨bI, oI, none⟩) 3 ci) := fun W hW => (HV.o.below hW HV.o.lt).cell 4 rfl
  have gb2 : ∀ W, Below w1.heap.size w1 W → W.cell? ⟨bI, oI + 5 + 2, none⟩ = some (.string b.text) := fun W hW => ((HBC.o.below (below2 HB.o hW)) 2 _ rfl)
  have gb2' : ∀ W, Below w1.heap.size w1 W → W.cell? ⟨bI, oI + 7, none⟩ = some (.string b.text) := gb2
  have gc0 : ∀ W, Below w1.heap.size w1 W → W.cell? ⟨bI, oI + 10, none⟩ = some (.int .i64 c.kind) := fun W hW => ((HCC.o.below (below2 HB.o hW)) 0 _ rfl)
  go_region_held3 (fun w' => Below w1.heap.size w1 w') (first | assumption | exact Below.drew (Below.refl _ _) | exact below2 (by assumption) (by assumption) | exact (below_a1 _ _).drew | exact below_a1 _ _) (fail)
  have a4 : w1.cell? ⟨bI, oI + 4, none⟩ = some (.slice aAi a.items.length aci) := (HA.o.below HB.o) 4 _ rfl
  have hbI1 : bI < w1.heap.size := Nat.lt_of_lt_of_le hbI HB.o.size
  have hV1 := HV.o.lt
  have v4 := HV.o.cell 4 rfl
  clear g4 gb2 gb2' gc0
  generalize hna : a.items.length = na at *
  have HNA := K.mk hna
  clear hna
  go_wp2_with fail
  clear a4 v4
  go_loopg [46] na (fun g s wr => ∃ (k : Nat) (v' : Value), k ≤ na ∧ na - k ≤ g ∧ s = .int .i64 k ∧ K (OwnL rF 65 (w1.heap.size + 1) wr ((a.items.map fun x => cutF x.text).take k) v') ∧ K (Below w.heap.size w wr) ∧ K (Blk wr w.heap.size 37 [.int .i64 v.kind, .int .i64 v.num, .string v.text, .slice An v.names.length cn, .slice (some ⟨bI, oI, none⟩) 3 ci]) ∧ K (Blk wr (w.heap.size + 1) 24 [.string ⟨#[]⟩, .slice none 0 0, .bool false]) ∧ K (Blk wr w1.heap.size 24 [.string b.text, v', .bool (c.kind == 2)]) ∧ w1.heap.size + 1 ≤ wr.heap.size)
  case atStart => exact ⟨0, _, Nat.zero_le _, Nat.le_refl _, rfl, ⟨by simpa using OwnL.nil _ _ _ _⟩, ⟨(HB.o.alloc HB.o.size _).drew⟩, ⟨(HV.o.alloc _).drew⟩, ⟨(HR.o.alloc _).drew⟩, ⟨(Blk.new _ _ _).drew⟩, by simp⟩
  case round =>
    have hgB : w.heap.size + 1 < w1.heap.size := HR.o.lt
    clear HB HV HR hV1 hbI1
    obtain ⟨k, v', hk', hg, rfl, HO, HB, HV, HR, HY, hB3⟩ := hrel
    have HOW := K.mk (fun q (hq : v'.ownBlock = some q) => HO.o.lt q hq)
    have hzy := HY.o.lt
    rcases Nat.lt_or_ge k na with hlt | hge
    · obtain ⟨ba, oa, x, xcs, rfl, _, hba, hx, hRx, hcx⟩ := HAI.o.at k (by rw [HNA.o]; exact hlt)
      obtain ⟨xAn, xcn, xA, xc, rfl, _, _, _, _, hxt⟩ := hRx.wide
      obtain ⟨c0, c1, c2, c3, c4⟩ := (hcx.below HB.o).five
      have hzb : ba < wr.heap.size := Nat.lt_of_lt_of_le hba HB.o.size
      have y1 := HY.o.cell 1 rfl
      have HMT := K.mk (take_snoc_eq (a.items.map fun x => cutF x.text) k (cutF x.text) (by rw [List.getElem?_map, hx]; rfl))
      have HKL := K.mk (show ((a.items.map fun x => cutF x.text).take k).length = k by rw [List.length_take, List.length_map, HNA.o]; omega)
      have hcz := cut_size x.text
      have HCZ := K.mk (show (cutF x.text).path.size ≤ strMax by omega)
      have HCP := K.mk (fun W => cut_calls x.text W)
      clear hx hRx hcx hcz
      go_wp2_with (first
        | (go_at_call 50; go_must (refine (HCP.o _).mono ?_); rintro e w5 ⟨rfl, rfl⟩)
        | (at_builtin; refine wpList_append_L (w := wr.alloc (.cells #[.int .i64 x.kind, .int .i64 x.num, .string x.text, .slice xAn x.names.length xcn, .slice xA x.items.length xc] 37)) rF rfl _ _ 22 rfl (w1.heap.size + 1) 65 i0 (.agg #[.string ⟨#[]⟩, .bool false]) 24 Tryd.underlying22 hi hz0 hz1 hz2 rfl (by decide) v' ((a.items.map fun x => cutF x.text).take k) rfl (HO.o.alloc _) (cutF x.text) [.string (cutF x.text).path, .bool (cutF x.text).down] (rF_close HCZ.o) (by rw [World.size_alloc]; rfl) ?_ (below_a1 _ _) (by unfold maxLen; rw [HKL.o]; omega) (by rw [HKL.o]; omega) (by simp; omega) ?_))
      case _ => exact fun j u hu => (Blk.new _ 65 _).cell j hu
      intro v2 w3 hown' hgrow hnn hat
      have HO' := K.mk (hown'.cast HMT.o.symm)
      have hne : ∀ q, q ≤ w1.heap.size → some q ≠ v'.ownBlock := fun q hq h => by have := (HOW.o q h.symm).1; omega
      have HY' := K.mk (((HY.o.alloc _).alloc _).grown hgrow (hne _ (Nat.le_refl _)))
      have HV' := K.mk (((HV.o.alloc _).alloc _).grown hgrow (hne _ (by omega)))
      have HR' := K.mk (((HR.o.alloc _).alloc _).grown hgrow (hne _ (by omega)))
      have hs3 := hgrow.size
      have HB' := K.mk (((HB.o.alloc HB.o.size _).alloc (HB.o.alloc HB.o.size _).size _).grown hgrow (by simp; omega) (fun q hq => by have := (HOW.o q hq).1; omega))
      have y1' := HY'.o.cell 1 rfl
      have f1' := HY'.o.frozen 1
      obtain ⟨ao, q', cp, rfl⟩ : ∃ ao q' cp, v2 = .slice ao q' cp := by
        obtain ⟨a1, b1, c1⟩ := hown'.form
        exact ⟨_, _, _, c1⟩
      have hs4 : w1.heap.size + 1 ≤ w3.heap.size := by simp at hs3; omega
      clear hown' hgrow hnn hat hne y1 hs3
      go_wp2_with fail
      go_roundg (na - (k + 1))
      case measure => omega
      case rel => exact ⟨k + 1, .slice ao q' cp, by omega, Nat.le_refl _, by go_num, ⟨HO'.o.farNe flat_F ⟨w1.heap.size, 1, none⟩ _ (fun h => by have h2 : w1.heap.size + 1 ≤ w1.heap.size := (HO'.o.lt _ h).1; omega)⟩, ⟨HB'.o.setCell (p := ⟨w1.heap.size, 1, none⟩) (by show w.heap.size ≤ w1.heap.size; omega) _⟩, ⟨HV'.o.far (by show w.heap.size ≠ w1.heap.size; omega) _⟩, ⟨HR'.o.far (by show w.heap.size + 1 ≠ w1.heap.size; omega) _⟩, ⟨HY'.o.set 1 _⟩, by simpa using hs4⟩
    · have hkk : k = na := by omega
      have HCX := K.mk (candX_of HV3.o)
      have HO2 := K.mk (HO.o.cast (show (a.items.map fun x => cutF x.text).take k = (candX v).fields by rw [HCX.o, hkk, ← HNA.o, ← List.length_map (f := fun x : JV => cutF x.text), List.take_length]))
      clear HO
      obtain ⟨vA, vc, rfl⟩ := HO2.o.form
      have hfl : (candX v).fields.length = na := by rw [HCX.o]; simp only [List.length_map]; exact HNA.o
      rw [hfl] at HY HOW HO2
      clear hfl
      have HRX := K.mk (fun W (hW : Below wr.heap.size wr W) => (show rIX.R W (fun _ => True) (candX v) [.string b.text, .slice vA na vc, .bool (c.kind == 2)] from by
        have h1 := (HO2.o.more hW).slice (by rw [HCX.o]; simp only [List.length_map]; rw [HNA.o]; unfold strMax; omega)
        have h2 := rIX_close (x := candX v) h1 (by rw [HCX.o]; exact HBT.o)
        rw [show (candX v).name = b.text by rw [HCX.o], show (candX v).unique = (c.kind == 2) by rw [HCX.o]; rfl] at h2
        exact h2))
      obtain ⟨y0, y1, y2⟩ := HY.o.three
      have HTW := K.mk (HT.o.below HB.o)
      cases hq : formX (candX v)
      · have HQ := K.mk (parse_bad hq)
        have HS := K.mk (Show_no (candX v) _ _ wr (HRX.o wr (Below.refl _ _)) HTW.o hq)
        clear hq
        go_wp2_with (go_at_call 18; go_must (refine HS.o.mono ?_); rintro e w5 ⟨rfl, hb5⟩; have HR5 := K.mk (HR.o.below hb5 HR.o.lt); have HB5 := K.mk (below2 HB.o hb5); obtain ⟨r0, r1, r2⟩ := HR5.o.three; have f0 := HR5.o.frozen 0; have f1 := HR5.o.frozen 1; have f2 := HR5.o.frozen 2; have hr5 := HR5.o.lt; clear hb5)
        have RR := fun u0 u1 u2 o => (res3_cells HR5.o rfl u0 u1 u2).alloc o
        have rr0 := fun u0 u1 u2 o => (RR u0 u1 u2 o).cell 0 rfl
        have rr1 := fun u0 u1 u2 o => (RR u0 u1 u2 o).cell 1 rfl
        have rr2 := fun u0 u1 u2 o => (RR u0 u1 u2 o).cell 2 rfl
        refine bodyPost_ret (v := .tuple #[.agg #[.string ⟨#[]⟩, .slice none 0 0, .bool false], .int .i64 2]) (by simp [results, Tryd.results20, go_sem, rr0, rr1, rr2]) rfl (parseQ_none HQ.o ?_)
        exact (below_res3 HB5.o (by simp) _ _ _).alloc (by simp [World.setCell]; omega) _
      · have HS := K.mk (Show_yes (candX v) _ _ wr (HRX.o wr (Below.refl _ _)) HTW.o hq)
        have HJ := K.mk (fun cs' W (hR : RV W (fun _ => True) (showX (candX v)) cs') (hW : Below w.heap.size w W) => json_Same_calls v (showX (candX v)) _ cs' S (fun _ => True) W (rV.below HRV.o hW) hR)
        rw [HL3.o] at HJ
        cases hsm : sameS v (showX (candX v))
        · have HQ := K.mk (parse_diff hsm)
          rw [hsm] at HJ
          clear hq hsm
          go_wp2_with (first
            | (go_at_call 18; go_must (refine HS.o.mono ?_); rintro e w5 ⟨cs', rfl, hR5, hb5⟩; have HRS := K.mk hR5; obtain ⟨sAn, scn, sAi, sci, rfl, _⟩ := hR5.wide; have HV5 := K.mk (HV.o.below hb5 HV.o.lt); obtain ⟨v0, v1, v2, v3, v4⟩ := HV5.o.five; have hv5 := HV5.o.lt; have HR5 := K.mk (HR.o.below hb5 HR.o.lt); have HB5 := K.mk (below2 HB.o hb5); clear hb5 hR5)
            | (go_at_call 51; go_must (refine (HJ.o _ _ (rV.below HRS.o (below_a1 _ _)) (HB5.o.alloc HB5.o.size _)).mono ?_); rintro e w6 ⟨rfl, hb6⟩; have HR6 := K.mk ((HR5.o.alloc _).below hb6 (HR5.o.alloc _).lt); have HB6 := K.mk (below2 (HB5.o.alloc HB5.o.size _) hb6); obtain ⟨r0, r1, r2⟩ := HR6.o.three; have f0 := HR6.o.frozen 0; have f1 := HR6.o.frozen 1; have f2 := HR6.o.frozen 2; clear hb6))
          refine bodyPost_ret (v := .tuple #[.agg #[.string ⟨#[]⟩, .slice none 0 0, .bool false], .int .i64 2]) (by simp [results, Tryd.results20, go_sem, r0, r1, r2, HR6.o.lt]) rfl (parseQ_none HQ.o ?_)
          exact below_res3 HB6.o (by simp) _ _ _
        · have HQ := K.mk (parse_yes HL3.o hq hsm)
          rw [hsm] at HJ
          clear hq hsm
          go_wp2_with (first
            | (go_at_call 18; go_must (refine HS.o.mono ?_); rintro e w5 ⟨cs', rfl, hR5, hb5⟩; have HRS := K.mk hR5; obtain ⟨sAn, scn, sAi, sci, rfl, _⟩ := hR5.wide; have HV5 := K.mk (HV.o.below hb5 HV.o.lt); obtain ⟨v0, v1, v2, v3, v4⟩ := HV5.o.five; have hv5 := HV5.o.lt; have HR5 := K.mk (HR.o.below hb5 HR.o.lt); have HY5 := K.mk (HY.o.below hb5 HY.o.lt); have HB5 := K.mk (below2 HB.o hb5); have HBW := K.mk hb5; clear hb5 hR5)
            | (go_at_call 51; go_must (refine (HJ.o _ _ (rV.below HRS.o (below_a1 _ _)) (HB5.o.alloc HB5.o.size _)).mono ?_); rintro e w6 ⟨rfl, hb6⟩; have HR6 := K.mk ((HR5.o.alloc _).below hb6 (HR5.o.alloc _).lt); have HY6 := K.mk ((HY5.o.alloc _).below hb6 (HY5.o.alloc _).lt); have HB6 := K.mk (below2 (HB5.o.alloc HB5.o.size _) hb6); have HBW6 := K.mk (below2 (HBW.o.alloc HBW.o.size _) hb6); obtain ⟨r0, r1, r2⟩ := HR6.o.three; obtain ⟨z0, z1, z2⟩ := HY6.o.three; have f0 := HR6.o.frozen 0; have f1 := HR6.o.frozen 1; have f2 := HR6.o.frozen 2; clear hb6))
          refine bodyPost_ret (v := .tuple #[.agg #[.string b.text, .slice vA na vc, .bool (c.kind == 2)], .int .i64 0]) (by simp [results, Tryd.results20, go_sem, r0, r1, r2, HR6.o.lt]) rfl ?_
          refine ⟨below_res3 HB6.o (by simp) _ _ _, ?_⟩
          rw [HQ.o]
          refine ⟨_, rfl, ?_⟩
          have HO6 := HO2.o.more HBW6.o
          have hne : (Value.slice vA na vc).ownBlock ≠ some (w.heap.size + 1) := fun h => by have := (HOW.o _ h).1; omega
          have h1 := (((HO6.farNe flat_F ⟨w.heap.size + 1, 0, none⟩ (.string b.text) hne).farNe flat_F ⟨w.heap.size + 1, 1, none⟩ (.slice vA na vc) hne).farNe flat_F ⟨w.heap.size + 1, 2, none⟩ (.bool (c.kind == 2)) hne).slice (by rw [HCX.o]; simp only [List.length_map]; rw [HNA.o]; unfold strMax; omega)
          have h2 := rIX_close (x := candX v) h1 (by rw [HCX.o]; exact HBT.o)
          rw [show (candX v).name = b.text by rw [HCX.o], show (candX v).unique = (c.kind == 2) by rw [HCX.o]; rfl] at h2
          exact h2
end Go.Proofs.YtgcbkecpplhknaaDoor
