/- Walks: Parse of indexes, of the reference. -/
import Derived.Test.YtgcbkecpplhknaaDoorEParse2
import Derived.Test.YtgcbkecpplhknaaDoorEShowR
import Derived.Test.YtgcbkecpplhknaaDoorEPlainW
import Derived.Test.YtgcbkecpplhknaaDoorJSameR


import Derived.WalkKit
import Derived.Deep.QuietTactic
import Derived.BigQuiet
import Derived.Outline
import Derived.Deep.DeepMust
import Derived.Deep.CutBlock
import Derived.Deep.DeepCutAuto
import Derived.Deep.RegionWith
import Derived.WalkSpells
import Derived.WalkLawsBesides
import Derived.Test.YtgcbkecpplhknaaDoorMu
import Derived.Test.YtgcbkecpplhknaaDoorProg
set_option linter.unusedVariables false
set_option linter.unusedSimpArgs false
namespace Go.Proofs.YtgcbkecpplhknaaDoor
open Go.RowKit Go.Mu

theorem Parse_calls (v : JV) (cs : List Value) (S : Blocks) (w : World) (h : RV w S v cs) (hsmall : (v.items.getD 0 (leafK 0)).items.length ≤ 1000) (hT : Tabs w) : Calls Tryd.prog 20 #[.agg cs.toArray] w (ParseQ v w) := by
  by_cases h1 : v.kind = 6
  · cases h2 : namesEq v.names lits
    · exact Parse_bad v cs S w h (.inr (.inl ⟨h1, h2⟩))
    · by_cases h3 : v.items.length = 3
      · obtain ⟨a, b, c, hv⟩ : ∃ a b c, v.items = [a, b, c] := by
          match hv : v.items, h3 with
          | [a, b, c], _ => exact ⟨a, b, c, rfl⟩
        rw [hv] at hsmall
        exact Parse_ok v a b c cs S w h h1 h2 hv hsmall hT
      · exact Parse_bad v cs S w h (.inr (.inr ⟨h1, h2, h3⟩))
  · exact Parse_bad v cs S w h (.inl h1)

theorem rShow_no (x : IX) (cs : List Value) (S : Blocks) (w : World) (h : rIX.R w S x cs) (hT : Tabs w) (hq : formX x = false) : Calls Tryd.prog 19 #[.agg cs.toArray] w fun e w' => e = .returned (.tuple #[.agg #[.int .i64 0, .int .i64 0, .string ⟨#[]⟩, .slice none 0 0, .slice none 0 0], .int .i64 2]) ∧ Below w.heap.size w w' :=
  (refShow_calls x cs S w h hT).mono fun e w' ⟨hb, h2⟩ => by rw [if_neg (by rw [hq]; simp)] at h2; exact ⟨h2, hb⟩
theorem rShow_yes (x : IX) (cs : List Value) (S : Blocks) (w : World) (h : rIX.R w S x cs) (hT : Tabs w) (hq : formX x = true) : Calls Tryd.prog 19 #[.agg cs.toArray] w fun e w' => ∃ cs', e = .returned (.tuple #[.agg cs'.toArray, .int .i64 0]) ∧ RV w' (fun _ => True) (showX x) cs' ∧ Below w.heap.size w w' :=
  (refShow_calls x cs S w h hT).mono fun e w' ⟨hb, h2⟩ => by
    rw [if_pos hq] at h2
    obtain ⟨cs', h3, h4⟩ := h2
    exact ⟨cs', h3, h4, hb⟩
theorem candR_of {v a b c : JV} (h : v.items = [a, b, c]) : candR v = ⟨b.text, (a.items.map fun x => cutF x.text).take 4, decide (c.kind = 2)⟩ := by unfold candR; rw [h]; simp [List.map_take]
theorem rparse_bad {v : JV} (h : formX (candR v) = false) : parseX v = none := by
  rw [← parse_same]; unfold parseWith
  rw [if_neg]; rintro ⟨_, h2, _⟩; rw [h] at h2; cases h2
theorem rparse_diff {v : JV} (h : sameS v (showX (candR v)) = false) : parseX v = none := by
  rw [← parse_same]; unfold parseWith
  rw [if_neg]; rintro ⟨_, _, h3⟩
  have h4 : showX (candR v) = v := @of_decide_eq_true _ (Classical.propDecidable _) h3
  rw [h4, sameS_true rfl] at h; cases h
theorem rparse_yes {v : JV} (hl : v.items.length = 3) (h1 : formX (candR v) = true) (h2 : sameS v (showX (candR v)) = true) : parseX v = some (candR v) := by
  rw [← parse_same]; unfold parseWith
  rw [if_pos ⟨hl, h1, @decide_eq_true _ (Classical.propDecidable _) (sameS_eq h2).symm⟩]
theorem cut_no0 {s : ByteArray} (h : s.size = 0) : cutF s = ⟨s, false⟩ := by
  unfold cutF
  rw [if_neg]
  have : s.data.toList = [] := List.eq_nil_of_length_eq_zero h
  rw [this]; simp
theorem cut_no {s : ByteArray} (hp : 0 < s.size) (h : (s[0]'hp).toNat ≠ 45) : cutF s = ⟨s, false⟩ := by
  unfold cutF
  rw [if_neg]
  intro h2
  apply h
  rw [List.head?_eq_getElem?, List.getElem?_eq_getElem (by simpa using hp)] at h2
  injection h2 with h2
  exact congrArg UInt8.toNat h2
theorem cut_yes {s : ByteArray} (hp : 0 < s.size) (h : (s[0]'hp).toNat = 45) : cutF s = ⟨s.extract 1 s.size, true⟩ := by
  unfold cutF
  rw [if_pos]
  rw [List.head?_eq_getElem?, List.getElem?_eq_getElem (by simpa using hp)]
  congr 1
  exact UInt8.toNat_inj.1 h

set_option maxRecDepth 100000 in
set_option maxHeartbeats 4000000 in
theorem rParse_bad (v : JV) (cs : List Value) (S : Blocks) (w : World) (h : RV w S v cs) (hbad : v.items.length ≠ 3) :
    Calls Tryd.prog 21 #[.agg cs.toArray] w (ParseQ v w) := by
  have HQ := K.mk (show parseX v = none from parse_no fun x hx => hbad (by rw [← hx]; rfl))
  obtain ⟨An, cn, Ai, ci, rfl, hnm, hit, hk, hn, ht⟩ := h.wide
  have q1 : ((v.items.length : Int) != 3) = true := bne_tt (by omega)
  have hil := hit.len_le
  clear hbad hnm hit h
  go_enter Tryd.func21, Tryd.ntmps21
  go_wp2_with fail
  refine bodyPost_ret (v := .tuple #[.agg #[.string ⟨#[]⟩, .slice none 0 0, .bool false], .int .i64 2]) (by simp [results, Tryd.results21, go_sem]) rfl (parseQ_none HQ.o ?_)
  first | exact below_a3 _ _ _ _ | exact below_res3 (below_a3 _ _ _ _) (by simp) _ _ _


set_option maxRecDepth 100000 in
set_option maxHeartbeats 8000000 in
theorem rParse_ok (v a b c : JV) (cs : List Value) (S : Blocks) (w : World) (h : RV w S v cs) (hv3 : v.items = [a, b, c]) (hT : Tabs w) :
    Calls Tryd.prog 21 #[.agg cs.toArray] w (ParseQ v w) := by
  obtain ⟨i0, hi, hz0, hz1, hz2⟩ := field_info
  have HT := K.mk hT
  have HRV := K.mk h
  obtain ⟨An, cn, Ai, ci, rfl, hnm, hit, hk, hn, ht⟩ := h.wide
  have hl3 : v.items.length = 3 := by rw [hv3]; rfl
  have HL3 := K.mk hl3
  have HV3 := K.mk hv3
  obtain ⟨bI, oI, a', ca, rfl, hSI, hbI, ha', hRa, hca⟩ := hit.at 0 (by omega)
  obtain ⟨b2, o2, b', cb, he2, _, _, hb', hRb, hcb⟩ := hit.at 1 (by omega)
  obtain ⟨b3, o3, c', cc, he3, _, _, hc', hRc, hcc⟩ := hit.at 2 (by omega)
  injection he2 with he2
  injection he2 with e1 e2
  injection he3 with he3
  injection he3 with e3 e4
  subst e1 e2 e3 e4
  rw [hv3] at ha' hb' hc'
  simp at ha' hb' hc'
  subst ha' hb' hc'
  have hca := cellsAt0 hca
  obtain ⟨aAn, acn, aAi, aci, rfl, _, hai, _⟩ := hRa.wide
  obtain ⟨bAn, bcn, bAi, bci, rfl, _, _, _, _, hbt⟩ := hRb.wide
  obtain ⟨cAn, ccn, cAi, cci, rfl, _, _, hck, _⟩ := hRc.wide
  have hal := hai.len_le
  have HA := K.mk hca
  have HBC := K.mk hcb
  have HCC := K.mk hcc
  have HAI := K.mk hai
  have HBT := K.mk hbt
  rw [hl3]
  clear hnm hit h hRa hRb hRc hca hcb hcc hai hbt hT hl3 hv3
  generalize hna : a.items.length = na at *
  have HNA := K.mk hna
  obtain ⟨m, hm⟩ : ∃ m, m = min na 4 := ⟨_, rfl⟩
  have hm1 : m ≤ na := by omega
  have hm2 : m ≤ 4 := by omega
  have hm3 : m = na ∨ m = 4 := by omega
  have HM := K.mk hm
  clear hna hm
  go_enter Tryd.func21, Tryd.ntmps21
  go_wp2_with fail
  go_loopg [5] m (fun g s wr => ∃ (k : Nat) (v' : Value), k ≤ m ∧ m - k ≤ g ∧ s = .int .i64 k ∧ K (OwnL rF 81 (w.heap.size + 1 + 1 + 1) wr ((a.items.map fun x => cutF x.text).take k) v') ∧ K (Below w.heap.size w wr) ∧ K (Blk wr w.heap.size 37 [.int .i64 v.kind, .int .i64 v.num, .string v.text, .slice An v.names.length cn, .slice (some ⟨bI, oI, none⟩) 3 ci]) ∧ K (Blk wr (w.heap.size + 1) 30 [.string ⟨#[]⟩, .slice none 0 0, .bool false]) ∧ K (Blk wr (w.heap.size + 1 + 1) 30 [.string ⟨#[]⟩, v', .bool false]) ∧ w.heap.size + 1 + 1 + 1 ≤ wr.heap.size)
  case atStart => exact ⟨0, _, Nat.zero_le _, Nat.le_refl _, rfl, ⟨by simpa using OwnL.nil _ _ _ _⟩, ⟨below_a3 _ _ _ _⟩, ⟨(Blk.new1 _ _ _ _).alloc _⟩, ⟨(Blk.newAt (by simp) _ _).alloc _⟩, ⟨Blk.newAt (by simp) _ _⟩, by simp⟩
  case round =>
    obtain ⟨k, v', hk', hg, rfl, HO, HB, HV, HR, HY, hB3⟩ := hrel
    have HOW := K.mk (fun q (hq : v'.ownBlock = some q) => HO.o.lt q hq)
    have v4 := HV.o.cell 4 rfl
    have a4 : wr.cell? ⟨bI, oI + 4, none⟩ = some (.slice aAi na aci) := (HA.o.below HB.o) 4 _ rfl
    have hzy := HY.o.lt
    have hzv := HV.o.lt
    have hbI1 : bI < wr.heap.size := Nat.lt_of_lt_of_le hbI HB.o.size
    rcases Nat.lt_or_ge k m with hlt | hge
    · have hk1 : (k : Int) < (na : Int) := by omega
      have hk2 : (k : Int) ≤ 3 := by omega
      obtain ⟨ba, oa, x, xcs, rfl, _, hba, hx, hRx, hcx⟩ := HAI.o.at k (by rw [HNA.o]; omega)
      obtain ⟨xAn, xcn, xA, xc, rfl, _, _, _, _, hxt⟩ := hRx.wide
      have c2 := ((hcx.below HB.o).five).2.2.1
      have hzb : ba < wr.heap.size := Nat.lt_of_lt_of_le hba HB.o.size
      have y1 := HY.o.cell 1 rfl
      have HMT := K.mk (take_snoc_eq (a.items.map fun x => cutF x.text) k (cutF x.text) (by rw [List.getElem?_map, hx]; rfl))
      have HKL := K.mk (show ((a.items.map fun x => cutF x.text).take k).length = k by rw [List.length_take, List.length_map, HNA.o]; omega)
      have hcz := cut_size x.text
      have HCZ := K.mk (show (cutF x.text).path.size ≤ strMax by omega)
      have hxt' : x.text.size ≤ 281474976710656 := hxt
      clear hx hRx hcx hcz hxt
      by_cases hp : 0 < x.text.size
      · have hpz : (0 : Int) < (x.text.size : Int) := by omega
        have hp1 : (1 : Int) ≤ (x.text.size : Int) := by omega
        by_cases hd : (x.text[0]'hp).toNat = 45
        · have HFT := K.mk (cut_yes hp hd)
          have q1 : (((x.text[0]'hp).toNat : Int) == 45) = true := beq_tt (by omega)
          clear hd
          go_wp2_with (at_builtin; refine wpList_append_L (w := wr.alloc (.cells #[.string (x.text.extract 1 x.text.size), .bool true] 81)) rF rfl _ _ 28 rfl (w.heap.size + 1 + 1 + 1) 81 i0 (.agg #[.string ⟨#[]⟩, .bool false]) 24 Tryd.underlying28 hi hz0 hz1 hz2 rfl (by decide) v' ((a.items.map fun x => cutF x.text).take k) rfl (HO.o.alloc _) (cutF x.text) [.string (x.text.extract 1 x.text.size), .bool true] (by have h := rF_close (w := wr.alloc (.cells #[.string (x.text.extract 1 x.text.size), .bool true] 81)) (S := fun b => some b ≠ v'.ownBlock) HCZ.o; rw [HFT.o] at h ⊢; exact h) (by rw [World.size_alloc]; rfl) (fun j u hu => (Blk.new (wr.alloc (.cells #[.string (x.text.extract 1 x.text.size), .bool true] 81)) 81 [.string (x.text.extract 1 x.text.size), .bool true]).cell j hu) (below_a1 _ _) (by unfold maxLen; rw [HKL.o]; omega) (by rw [HKL.o]; omega) (by simp; omega) ?_)
          intro v2 w3 hown' hgrow hnn hat
          have HO' := K.mk (hown'.cast HMT.o.symm)
          have hne : ∀ q, q ≤ w.heap.size + 1 + 1 → some q ≠ v'.ownBlock := fun q hq h => by have := (HOW.o q h.symm).1; omega
          have HY' := K.mk (((HY.o.alloc _).alloc _).grown hgrow (hne _ (Nat.le_refl _)))
          have HV' := K.mk (((HV.o.alloc _).alloc _).grown hgrow (hne _ (by omega)))
          have HR' := K.mk (((HR.o.alloc _).alloc _).grown hgrow (hne _ (by omega)))
          have hs3 := hgrow.size
          have HB' := K.mk (((HB.o.alloc HB.o.size _).alloc (HB.o.alloc HB.o.size _).size _).grown hgrow (by simp; omega) (fun q hq => by have := (HOW.o q hq).1; omega))
          have y1' := HY'.o.cell 1 rfl
          have f1' := HY'.o.frozen 1
          obtain ⟨ao, q', cp, rfl⟩ : ∃ ao q' cp, v2 = .slice ao q' cp := by
            obtain ⟨a1, b1, c1⟩ := hown'.form
            exact ⟨_, _, _, c1⟩
          have hs4 : w.heap.size + 1 + 1 + 1 ≤ w3.heap.size := by simp at hs3; omega
          clear hown' hgrow hnn hat hne y1 hs3
          go_wp2_with fail
          go_roundg (m - (k + 1))
          case measure => omega
          case rel => exact ⟨k + 1, .slice ao q' cp, by omega, Nat.le_refl _, by go_num, ⟨HO'.o.farNe flat_F ⟨w.heap.size + 1 + 1, 1, none⟩ _ (fun h => by have h2 : w.heap.size + 1 + 1 + 1 ≤ w.heap.size + 1 + 1 := (HO'.o.lt _ h).1; omega)⟩, ⟨HB'.o.setCell (p := ⟨w.heap.size + 1 + 1, 1, none⟩) (by show w.heap.size ≤ w.heap.size + 1 + 1; omega) _⟩, ⟨HV'.o.far (by simp; omega) _⟩, ⟨HR'.o.far (by simp) _⟩, ⟨HY'.o.set 1 _⟩, by simpa using hs4⟩
        · have HFT := K.mk (cut_no hp hd)
          have q1 : (((x.text[0]'hp).toNat : Int) == 45) = false := beq_ff (by omega)
          clear hd
          go_wp2_with (at_builtin; refine wpList_append_L (w := wr.alloc (.cells #[.string x.text, .bool false] 81)) rF rfl _ _ 28 rfl (w.heap.size + 1 + 1 + 1) 81 i0 (.agg #[.string ⟨#[]⟩, .bool false]) 24 Tryd.underlying28 hi hz0 hz1 hz2 rfl (by decide) v' ((a.items.map fun x => cutF x.text).take k) rfl (HO.o.alloc _) (cutF x.text) [.string x.text, .bool false] (by have h := rF_close (w := wr.alloc (.cells #[.string x.text, .bool false] 81)) (S := fun b => some b ≠ v'.ownBlock) HCZ.o; rw [HFT.o] at h ⊢; exact h) (by rw [World.size_alloc]; rfl) (fun j u hu => (Blk.new (wr.alloc (.cells #[.string x.text, .bool false] 81)) 81 [.string x.text, .bool false]).cell j hu) (below_a1 _ _) (by unfold maxLen; rw [HKL.o]; omega) (by rw [HKL.o]; omega) (by simp; omega) ?_)
          intro v2 w3 hown' hgrow hnn hat
          have HO' := K.mk (hown'.cast HMT.o.symm)
          have hne : ∀ q, q ≤ w.heap.size + 1 + 1 → some q ≠ v'.ownBlock := fun q hq h => by have := (HOW.o q h.symm).1; omega
          have HY' := K.mk (((HY.o.alloc _).alloc _).grown hgrow (hne _ (Nat.le_refl _)))
          have HV' := K.mk (((HV.o.alloc _).alloc _).grown hgrow (hne _ (by omega)))
          have HR' := K.mk (((HR.o.alloc _).alloc _).grown hgrow (hne _ (by omega)))
          have hs3 := hgrow.size
          have HB' := K.mk (((HB.o.alloc HB.o.size _).alloc (HB.o.alloc HB.o.size _).size _).grown hgrow (by simp; omega) (fun q hq => by have := (HOW.o q hq).1; omega))
          have y1' := HY'.o.cell 1 rfl
          have f1' := HY'.o.frozen 1
          obtain ⟨ao, q', cp, rfl⟩ : ∃ ao q' cp, v2 = .slice ao q' cp := by
            obtain ⟨a1, b1, c1⟩ := hown'.form
            exact ⟨_, _, _, c1⟩
          have hs4 : w.heap.size + 1 + 1 + 1 ≤ w3.heap.size := by simp at hs3; omega
          clear hown' hgrow hnn hat hne y1 hs3
          go_wp2_with fail
          go_roundg (m - (k + 1))
          case measure => omega
          case rel => exact ⟨k + 1, .slice ao q' cp, by omega, Nat.le_refl _, by go_num, ⟨HO'.o.farNe flat_F ⟨w.heap.size + 1 + 1, 1, none⟩ _ (fun h => by have h2 : w.heap.size + 1 + 1 + 1 ≤ w.heap.size + 1 + 1 := (HO'.o.lt _ h).1; omega)⟩, ⟨HB'.o.setCell (p := ⟨w.heap.size + 1 + 1, 1, none⟩) (by show w.heap.size ≤ w.heap.size + 1 + 1; omega) _⟩, ⟨HV'.o.far (by simp; omega) _⟩, ⟨HR'.o.far (by simp) _⟩, ⟨HY'.o.set 1 _⟩, by simpa using hs4⟩
      · have hpz : ¬ (0 : Int) < (x.text.size : Int) := by omega
        have HFT := K.mk (cut_no0 (s := x.text) (by omega))
        clear hp
        go_wp2_with (at_builtin; refine wpList_append_L (w := wr.alloc (.cells #[.string x.text, .bool false] 81)) rF rfl _ _ 28 rfl (w.heap.size + 1 + 1 + 1) 81 i0 (.agg #[.string ⟨#[]⟩, .bool false]) 24 Tryd.underlying28 hi hz0 hz1 hz2 rfl (by decide) v' ((a.items.map fun x => cutF x.text).take k) rfl (HO.o.alloc _) (cutF x.text) [.string x.text, .bool false] (by have h := rF_close (w := wr.alloc (.cells #[.string x.text, .bool false] 81)) (S := fun b => some b ≠ v'.ownBlock) HCZ.o; rw [HFT.o] at h ⊢; exact h) (by rw [World.size_alloc]; rfl) (fun j u hu => (Blk.new (wr.alloc (.cells #[.string x.text, .bool false] 81)) 81 [.string x.text, .bool false]).cell j hu) (below_a1 _ _) (by unfold maxLen; rw [HKL.o]; omega) (by rw [HKL.o]; omega) (by simp; omega) ?_)
        intro v2 w3 hown' hgrow hnn hat
        have HO' := K.mk (hown'.cast HMT.o.symm)
        have hne : ∀ q, q ≤ w.heap.size + 1 + 1 → some q ≠ v'.ownBlock := fun q hq h => by have := (HOW.o q h.symm).1; omega
        have HY' := K.mk (((HY.o.alloc _).alloc _).grown hgrow (hne _ (Nat.le_refl _)))
        have HV' := K.mk (((HV.o.alloc _).alloc _).grown hgrow (hne _ (by omega)))
        have HR' := K.mk (((HR.o.alloc _).alloc _).grown hgrow (hne _ (by omega)))
        have hs3 := hgrow.size
        have HB' := K.mk (((HB.o.alloc HB.o.size _).alloc (HB.o.alloc HB.o.size _).size _).grown hgrow (by simp; omega) (fun q hq => by have := (HOW.o q hq).1; omega))
        have y1' := HY'.o.cell 1 rfl
        have f1' := HY'.o.frozen 1
        obtain ⟨ao, q', cp, rfl⟩ : ∃ ao q' cp, v2 = .slice ao q' cp := by
          obtain ⟨a1, b1, c1⟩ := hown'.form
          exact ⟨_, _, _, c1⟩
        have hs4 : w.heap.size + 1 + 1 + 1 ≤ w3.heap.size := by simp at hs3; omega
        clear hown' hgrow hnn hat hne y1 hs3
        go_wp2_with fail
        go_roundg (m - (k + 1))
        case measure => omega
        case rel => exact ⟨k + 1, .slice ao q' cp, by omega, Nat.le_refl _, by go_num, ⟨HO'.o.farNe flat_F ⟨w.heap.size + 1 + 1, 1, none⟩ _ (fun h => by have h2 : w.heap.size + 1 + 1 + 1 ≤ w.heap.size + 1 + 1 := (HO'.o.lt _ h).1; omega)⟩, ⟨HB'.o.setCell (p := ⟨w.heap.size + 1 + 1, 1, none⟩) (by show w.heap.size ≤ w.heap.size + 1 + 1; omega) _⟩, ⟨HV'.o.far (by simp; omega) _⟩, ⟨HR'.o.far (by simp) _⟩, ⟨HY'.o.set 1 _⟩, by simpa using hs4⟩
    · have hkk : k = m := by omega
      have hcond : ¬ (k : Int) < (na : Int) ∨ ((k : Int) < (na : Int) ∧ ¬ (k : Int) ≤ 3) := by omega
      have HCX := K.mk (candR_of HV3.o)
      have hml : (a.items.map fun x => cutF x.text).length = na := by rw [List.length_map]; exact HNA.o
      have htk : (a.items.map fun x => cutF x.text).take k = (candR v).fields := by
        rw [HCX.o, hkk]
        rcases hm3 with h | h
        · have : m ≤ 4 := hm2
          show _ = List.take 4 _
          rw [h, ← hml, List.take_length, List.take_of_length_le (by omega)]
        · show _ = List.take 4 _
          rw [h]
      have HO2 := K.mk (HO.o.cast htk)
      clear HO htk
      obtain ⟨vA, vc, rfl⟩ := HO2.o.form
      have hfl : (candR v).fields.length = m := by rw [HCX.o]; show (List.take 4 _).length = m; rw [List.length_take, hml]; omega
      rw [hfl] at HY HOW HO2
      have HFL := K.mk hfl
      clear hfl hml
      have b2 : wr.cell? ⟨bI, oI + 7, none⟩ = some (.string b.text) := (HBC.o.below HB.o) 2 _ rfl
      have c0 : wr.cell? ⟨bI, oI + 10, none⟩ = some (.int .i64 c.kind) := (HCC.o.below HB.o) 0 _ rfl
      obtain ⟨y0, y1, y2⟩ := HY.o.three
      have fy0 := HY.o.frozen 0
      have fy2 := HY.o.frozen 2
      have s4 : ∀ o u, (wr.setCell ⟨w.heap.size + 1 + 1, o, none⟩ u).cell? ⟨w.heap.size, 4, none⟩ = some (.slice (some ⟨bI, oI, none⟩) 3 ci) := fun o u => (HV.o.far (p := ⟨w.heap.size + 1 + 1, o, none⟩) (by simp; omega) u).cell 4 rfl
      have sc : ∀ o u, (wr.setCell ⟨w.heap.size + 1 + 1, o, none⟩ u).cell? ⟨bI, oI + 10, none⟩ = some (.int .i64 c.kind) := fun o u => (World.cell?_of_block (Below.heap_setCell wr ⟨w.heap.size + 1 + 1, o, none⟩ u bI (by simp; omega))).trans c0
      have HRX := K.mk (fun (W : World) (h : OwnL rF 81 (w.heap.size + 1 + 1 + 1) W (candR v).fields (.slice vA m vc)) => (show rIX.R W (fun _ => True) (candR v) [.string b.text, .slice vA m vc, .bool (c.kind == 2)] from by
        have h1 := h.slice (by rw [HFL.o]; unfold strMax; omega)
        have h2 := rIX_close (x := candR v) h1 (by rw [HCX.o]; exact HBT.o)
        rw [show (candR v).name = b.text by rw [HCX.o], show (candR v).unique = (c.kind == 2) by rw [HCX.o]; rfl] at h2
        exact h2))
      have hne2 : (Value.slice vA m vc).ownBlock ≠ some (w.heap.size + 1 + 1) := fun h => by have := (HOW.o _ h).1; omega
      have HO3 := K.mk ((HO2.o.farNe flat_F ⟨w.heap.size + 1 + 1, 0, none⟩ (.string b.text) hne2).farNe flat_F ⟨w.heap.size + 1 + 1, 2, none⟩ (.bool (c.kind == 2)) hne2)
      have HY3 := K.mk ((HY.o.set 0 (.string b.text)).set 2 (.bool (c.kind == 2)))
      have HV3' := K.mk ((HV.o.far (p := ⟨w.heap.size + 1 + 1, 0, none⟩) (by simp; omega) (.string b.text)).far (p := ⟨w.heap.size + 1 + 1, 2, none⟩) (by simp; omega) (.bool (c.kind == 2)))
      have HR3 := K.mk ((HR.o.far (p := ⟨w.heap.size + 1 + 1, 0, none⟩) (by simp) (.string b.text)).far (p := ⟨w.heap.size + 1 + 1, 2, none⟩) (by simp) (.bool (c.kind == 2)))
      have HB3 := K.mk ((HB.o.setCell (p := ⟨w.heap.size + 1 + 1, 0, none⟩) (by show w.heap.size ≤ w.heap.size + 1 + 1; omega) (.string b.text)).setCell (p := ⟨w.heap.size + 1 + 1, 2, none⟩) (by show w.heap.size ≤ w.heap.size + 1 + 1; omega) (.bool (c.kind == 2)))
      have HTW := K.mk (HT.o.below HB3.o)
      have z0 := HY3.o.cell 0 rfl
      have z1 := HY3.o.cell 1 rfl
      have z2 := HY3.o.cell 2 rfl
      clear hne2
      cases hq : formX (candR v)
      · have HQ := K.mk (rparse_bad hq)
        have HS := K.mk (rShow_no (candR v) _ _ _ (HRX.o _ HO3.o) HTW.o hq)
        clear hq
        rcases hcond with hc1 | ⟨hc1, hc2⟩
        all_goals
          go_wp2_with (go_at_call 19; go_must (refine HS.o.mono ?_); rintro e w5 ⟨rfl, hb5⟩; have HR5 := K.mk (HR3.o.below hb5 HR3.o.lt); have HB5 := K.mk (below2 HB3.o hb5); obtain ⟨r0, r1, r2⟩ := HR5.o.three; have f0 := HR5.o.frozen 0; have f1 := HR5.o.frozen 1; have f2 := HR5.o.frozen 2; have hr5 := HR5.o.lt; clear hb5)
          have RR := fun u0 u1 u2 o => (res3_cells HR5.o rfl u0 u1 u2).alloc o
          have rr0 := fun u0 u1 u2 o => (RR u0 u1 u2 o).cell 0 rfl
          have rr1 := fun u0 u1 u2 o => (RR u0 u1 u2 o).cell 1 rfl
          have rr2 := fun u0 u1 u2 o => (RR u0 u1 u2 o).cell 2 rfl
          refine bodyPost_ret (v := .tuple #[.agg #[.string ⟨#[]⟩, .slice none 0 0, .bool false], .int .i64 2]) (by simp [results, Tryd.results21, go_sem, rr0, rr1, rr2]) rfl (parseQ_none HQ.o ?_)
          exact (below_res3 HB5.o (by simp) _ _ _).alloc (by simp [World.setCell]; omega) _
      · have HS := K.mk (rShow_yes (candR v) _ _ _ (HRX.o _ HO3.o) HTW.o hq)
        have HJ := K.mk (fun cs' W (hR : RV W (fun _ => True) (showX (candR v)) cs') (hW : Below w.heap.size w W) => ref_Same_calls v (showX (candR v)) _ cs' S (fun _ => True) W (rV.below HRV.o hW) hR)
        rw [HL3.o] at HJ
        cases hsm : sameS v (showX (candR v))
        · have HQ := K.mk (rparse_diff hsm)
          rw [hsm] at HJ
          clear hq hsm
          rcases hcond with hc1 | ⟨hc1, hc2⟩
          all_goals
            go_wp2_with (first
              | (go_at_call 19; go_must (refine HS.o.mono ?_); rintro e w5 ⟨cs', rfl, hR5, hb5⟩; have HRS := K.mk hR5; obtain ⟨sAn, scn, sAi, sci, rfl, _⟩ := hR5.wide; have HV5 := K.mk (HV3'.o.below hb5 HV3'.o.lt); obtain ⟨v0, v1, v2, v3, v4⟩ := HV5.o.five; have hv5 := HV5.o.lt; have HR5 := K.mk (HR3.o.below hb5 HR3.o.lt); have HB5 := K.mk (below2 HB3.o hb5); clear hb5 hR5)
              | (go_at_call 22; go_must (refine (HJ.o _ _ (rV.below HRS.o (below_a1 _ _)) (HB5.o.alloc HB5.o.size _)).mono ?_); rintro e w6 ⟨rfl, hb6⟩; have HR6 := K.mk ((HR5.o.alloc _).below hb6 (HR5.o.alloc _).lt); have HB6 := K.mk (below2 (HB5.o.alloc HB5.o.size _) hb6); obtain ⟨r0, r1, r2⟩ := HR6.o.three; have f0 := HR6.o.frozen 0; have f1 := HR6.o.frozen 1; have f2 := HR6.o.frozen 2; have hr6 := HR6.o.lt; clear hb6))
            refine bodyPost_ret (v := .tuple #[.agg #[.string ⟨#[]⟩, .slice none 0 0, .bool false], .int .i64 2]) (by simp [results, Tryd.results21, go_sem, r0, r1, r2, HR6.o.lt]) rfl (parseQ_none HQ.o ?_)
            exact below_res3 HB6.o (by simp) _ _ _
        · have HQ := K.mk (rparse_yes HL3.o hq hsm)
          rw [hsm] at HJ
          clear hq hsm
          rcases hcond with hc1 | ⟨hc1, hc2⟩
          all_goals
            go_wp2_with (first
              | (go_at_call 19; go_must (refine HS.o.mono ?_); rintro e w5 ⟨cs', rfl, hR5, hb5⟩; have HRS := K.mk hR5; obtain ⟨sAn, scn, sAi, sci, rfl, _⟩ := hR5.wide; have HV5 := K.mk (HV3'.o.below hb5 HV3'.o.lt); obtain ⟨v0, v1, v2, v3, v4⟩ := HV5.o.five; have hv5 := HV5.o.lt; have HR5 := K.mk (HR3.o.below hb5 HR3.o.lt); have HY5 := K.mk (HY3.o.below hb5 HY3.o.lt); have HB5 := K.mk (below2 HB3.o hb5); have HBW := K.mk hb5; clear hb5 hR5)
              | (go_at_call 22; go_must (refine (HJ.o _ _ (rV.below HRS.o (below_a1 _ _)) (HB5.o.alloc HB5.o.size _)).mono ?_); rintro e w6 ⟨rfl, hb6⟩; have HR6 := K.mk ((HR5.o.alloc _).below hb6 (HR5.o.alloc _).lt); have HY6 := K.mk ((HY5.o.alloc _).below hb6 (HY5.o.alloc _).lt); have HB6 := K.mk (below2 (HB5.o.alloc HB5.o.size _) hb6); have HBW6 := K.mk (below2 (HBW.o.alloc HBW.o.size _) hb6); obtain ⟨r0, r1, r2⟩ := HR6.o.three; obtain ⟨z0, z1, z2⟩ := HY6.o.three; have f0 := HR6.o.frozen 0; have f1 := HR6.o.frozen 1; have f2 := HR6.o.frozen 2; clear hb6))
            refine bodyPost_ret (v := .tuple #[.agg #[.string b.text, .slice vA m vc, .bool (c.kind == 2)], .int .i64 0]) (by simp [results, Tryd.results21, go_sem, r0, r1, r2, HR6.o.lt]) rfl ?_
            refine ⟨below_res3 HB6.o (by simp) _ _ _, ?_⟩
            rw [HQ.o]
            refine ⟨_, rfl, ?_⟩
            have HO6 := HO3.o.more HBW6.o
            have hne : (Value.slice vA m vc).ownBlock ≠ some (w.heap.size + 1) := fun h => by have := (HOW.o _ h).1; omega
            exact HRX.o _ (((HO6.farNe flat_F ⟨w.heap.size + 1, 0, none⟩ (.string b.text) hne).farNe flat_F ⟨w.heap.size + 1, 1, none⟩ (.slice vA m vc) hne).farNe flat_F ⟨w.heap.size + 1, 2, none⟩ (.bool (c.kind == 2)) hne)

theorem rParse_calls (v : JV) (cs : List Value) (S : Blocks) (w : World) (h : RV w S v cs) (hT : Tabs w) : Calls Tryd.prog 21 #[.agg cs.toArray] w (ParseQ v w) := by
  by_cases h3 : v.items.length = 3
  · obtain ⟨a, b, c, hv⟩ : ∃ a b c, v.items = [a, b, c] := by
      match hv : v.items, h3 with
      | [a, b, c], _ => exact ⟨a, b, c, rfl⟩
    exact rParse_ok v a b c cs S w h hv hT
  · exact rParse_bad v cs S w h h3
end Go.Proofs.YtgcbkecpplhknaaDoor
