/- Walks: Show of indexes, of the reference. -/
import Derived.Test.YtgcbkecpplhknaaDoorEShowW
import Derived.Test.YtgcbkecpplhknaaDoorEFormR


import Derived.WalkKit
import Derived.Deep.QuietTactic
import Derived.BigQuiet
import Derived.Outline
import Derived.Deep.DeepMust
import Derived.Deep.CutBlock
import Derived.Deep.DeepCutAuto
import Derived.Deep.RegionWith
import Derived.WalkSpells
import Derived.WalkLawsBesides
import Derived.Test.YtgcbkecpplhknaaDoorMu
import Derived.Test.YtgcbkecpplhknaaDoorProg
set_option linter.unusedVariables false
set_option linter.unusedSimpArgs false
namespace Go.Proofs.YtgcbkecpplhknaaDoor
open Go.RowKit Go.Mu

/-- Cells, as they are. -/
def rRaw : Rep (List Value) where
  sz := 5
  R := fun _ _ x cs => cs = x ∧ x.length = 5 ∧ ∀ u ∈ x, u.oneCell' = true
  len := by rintro _ _ _ _ ⟨rfl, h, _⟩; exact h
  one := by rintro _ _ _ _ ⟨rfl, _, h⟩ u hu; exact h u hu
  frame := fun h _ => h
  mono := fun h _ => h
  bound := fun h => h
theorem flat_raw : Flat rRaw := fun _ _ _ _ _ _ h => h
theorem ownL_grown {α : Type} {r : Rep α} (hr : Flat r) {e : TypeId} {base : Nat} {w w' : World} {xs : List α} {v : Value} {row : Option Nat} (h : OwnL r e base w xs v) (hg : w.grownBy w' row) (hne : ∀ k, v.ownBlock = some k → some k ≠ row) : OwnL r e base w' xs v := by
  obtain ⟨css, hlen, hR, hrow⟩ := h
  refine ⟨css, hlen, fun j x cs hx hc => hr _ _ _ _ _ _ (hR j x cs hx hc), hrow.kept hg ?_⟩
  cases hv : v.ownBlock with
  | none => exact .inl rfl
  | some k => right; first | exact hne k hv | exact (hne k hv).symm
theorem slice_raw {α : Type} {R : α → List Value → Prop} {w : World} {S : Blocks} {css : List (List Value)} {xs : List α} {v : Value} (h : SliceR (rRaw.R w S) 5 w S css v) (hl : xs.length = css.length)
    (hR : ∀ (j : Nat) (x : α) (cs : List Value), xs[j]? = some x → css[j]? = some cs → R x cs) : SliceR R 5 w S xs v := by
  obtain ⟨A, c, rfl, h1, h2, h3⟩ := h
  refine ⟨A, c, by rw [hl], by rw [hl]; exact h1, by rw [hl]; exact h2, fun hne => ?_⟩
  obtain ⟨b, o, rfl, hS, hb, hc⟩ := h3 (by rintro rfl; apply hne; exact List.eq_nil_of_length_eq_zero hl)
  refine ⟨b, o, rfl, hS, hb, fun j x hx => ?_⟩
  have hj : j < css.length := by rw [← hl]; exact (List.getElem?_eq_some_iff.1 hx).1
  obtain ⟨cs, ⟨rfl, _⟩, hcc⟩ := hc j _ (List.getElem?_eq_getElem hj)
  exact ⟨_, hR j x _ hx (List.getElem?_eq_getElem hj), hcc⟩

theorem show_rv2 (x : IX) (w : World) (v vI : Value) (n1 : Nat) (hn : x.name.size ≤ strMax) (hl : SliceR (rT.R w (fun _ => True)) 5 w (fun _ => True) (x.fields.map fieldT) v)
    (h1 : Blk w n1 9 [.string nmFields, .string nmName, .string nmUnique])
    (h2 : SliceR (rRaw.R w (fun _ => True)) 5 w (fun _ => True) [[.int .i64 5, .int .i64 0, .string ⟨#[]⟩, .slice none 0 0, v], [.int .i64 4, .int .i64 0, .string x.name, .slice none 0 0, .slice none 0 0], [.int .i64 (if x.unique then 2 else 1), .int .i64 0, .string ⟨#[]⟩, .slice none 0 0, .slice none 0 0]] vI) :
    RV w (fun _ => True) (showX x) [.int .i64 6, .int .i64 0, .string ⟨#[]⟩, .slice (some ⟨n1, 0, none⟩) 3 3, vI] := by
  have hN := SliceR.ofBlk (r := rStr) (w := w) (S := fun _ => True) (xs := [nmFields, nmName, nmUnique]) [[.string nmFields], [.string nmName], [.string nmUnique]] rfl
    (fun j x cs hx hc => by
      match j, hx, hc with
      | 0, hx, hc => simp at hx hc; subst hx hc; exact ⟨rfl, by decide⟩
      | 1, hx, hc => simp at hx hc; subst hx hc; exact ⟨rfl, by decide⟩
      | 2, hx, hc => simp at hx hc; subst hx hc; exact ⟨rfl, by decide⟩
      | j + 3, hx, hc => simp at hx) h1 trivial (by decide)
  have hI := slice_raw (R := RV w (fun _ => True)) (xs := [(⟨5, 0, ByteArray.empty, [], (x.fields.map fieldT).map leafT⟩ : JV), leafT x.name, leafK (if x.unique then 2 else 1)]) h2 rfl
    (fun j y cs hx hc => by
      match j, hx, hc with
      | 0, hx, hc => simp only [List.getElem?_cons_zero, Option.some.injEq] at hx hc; subst hx hc; exact rv_texts hl
      | 1, hx, hc => simp only [List.getElem?_cons_succ, List.getElem?_cons_zero, Option.some.injEq] at hx hc; subst hx hc; exact rv_leafT _ _ _ hn
      | 2, hx, hc => simp only [List.getElem?_cons_succ, List.getElem?_cons_zero, Option.some.injEq] at hx hc; subst hx hc; exact rv_leafK _ _ _ (by split <;> omega) (by split <;> omega)
      | j + 3, hx, hc => simp at hx)
  rw [List.map_map] at hI
  exact RV.close (v := showX x) hN hI (kb 6 (by decide) (by decide)) (kb 0 (by decide) (by decide)) (show ByteArray.empty.size ≤ strMax by decide)


theorem one5 (a b c d e : Value) (ha : a.oneCell' = true) (hb : b.oneCell' = true) (hc : c.oneCell' = true) (hd : d.oneCell' = true) (he : e.oneCell' = true) : ∀ u ∈ [a, b, c, d, e], u.oneCell' = true := by
  intro u hu
  simp only [List.mem_cons, List.not_mem_nil, or_false] at hu
  rcases hu with rfl | rfl | rfl | rfl | rfl <;> assumption

set_option maxRecDepth 100000 in
set_option maxHeartbeats 8000000 in
theorem refShow_calls (x : IX) (cs : List Value) (S : Blocks) (w : World) (h : rIX.R w S x cs) (hT : Tabs w) : Calls Tryd.prog 19 #[.agg cs.toArray] w (ShowQ x w) := by
  obtain ⟨i0, hi, hz0, hz1, hz2⟩ := val_info
  have HC := K.mk (fun W (hW : Below w.heap.size w W) => refFormed_calls x cs S W (rIX.below h hW) (hT.below hW))
  obtain ⟨A, c, rfl, hf, hns⟩ := rIX_open h
  have hlen := hf.len_le
  have HF := K.mk hf
  have HNS := K.mk hns
  clear hf h hT hns
  cases hq : formX x
  · rw [hq] at HC
    have HQ := K.mk hq
    clear hq
    go_enter Tryd.func19, Tryd.ntmps19
    go_wp2_with (go_at_call 13; go_must (refine (HC.o _ (below_a2 _ _ _)).mono ?_); rintro e w1 ⟨rfl, hb1⟩; have HR := K.mk ((Blk.new2 _ _ _ _).below hb1 (by simp)); have HB := K.mk (below2 (below_a2 _ _ _) hb1); obtain ⟨r0, r1, r2, r3, r4⟩ := HR.o.five; have f0 := HR.o.frozen 0; have f1 := HR.o.frozen 1; have f2 := HR.o.frozen 2; have f3 := HR.o.frozen 3; have f4 := HR.o.frozen 4; clear hb1)
    refine bodyPost_ret (v := .tuple #[.agg zeroC.toArray, .int .i64 2]) (by simp [zeroC, results, Tryd.results19, go_sem, r0, r1, r2, r3, r4, HR.o.lt]) rfl ?_
    exact ⟨below_res HB.o (by simp) _ _ _ _ _, by rw [HQ.o]; rfl⟩
  · rw [hq] at HC
    have HQ := K.mk hq
    have hl3 := (formX_len hq).1
    generalize hn : x.fields.length = n at *
    have HL := K.mk hn
    clear hq hn
    go_enter Tryd.func19, Tryd.ntmps19
    go_wp2_with (go_at_call 13; go_must (refine (HC.o _ (below_a2 _ _ _)).mono ?_); rintro e w1 ⟨rfl, hb1⟩; have HR := K.mk ((Blk.new2 _ _ _ _).below hb1 (by simp)); have HX := K.mk ((Blk.new1 _ _ _ _).below hb1 (by simp; omega)); have HB := K.mk (below2 (below_a2 _ _ _) hb1); have hg1 : w.heap.size + 1 < w1.heap.size := HR.o.lt; have hg0 : w.heap.size < w1.heap.size := HX.o.lt; clear hb1)
    go_loopg [5] n (fun g s wr => ∃ (k : Nat) (v : Value), k ≤ n ∧ n - k ≤ g ∧ s = .int .i64 k ∧ K (OwnL rT 37 (w1.heap.size + 1) wr ((x.fields.map fieldT).take k) v) ∧ K (Below w.heap.size w wr) ∧ K (Blk wr w.heap.size 30 [.string x.name, .slice A n c, .bool x.unique]) ∧ K (Blk wr (w.heap.size + 1) 37 zeroC) ∧ K (Blk wr w1.heap.size 37 [.int .i64 5, .int .i64 0, .string ⟨#[]⟩, .slice none 0 0, v]) ∧ w1.heap.size + 1 ≤ wr.heap.size)
    case atStart => exact ⟨0, _, Nat.zero_le _, Nat.le_refl _, rfl, ⟨by simpa using OwnL.nil _ _ _ _⟩, ⟨HB.o.alloc HB.o.size _⟩, ⟨HX.o.alloc _⟩, ⟨HR.o.alloc _⟩, ⟨Blk.new _ _ _⟩, by simp⟩
    case round =>
      clear HB HX HR
      obtain ⟨k, v, hk', hg, rfl, HO, HB, HX, HR, HY, hB3⟩ := hrel
      have hown : ∀ q, v.ownBlock = some q → w1.heap.size + 1 ≤ q ∧ q < wr.heap.size := fun q hq => HO.o.lt q hq
      have HOW := K.mk hown
      clear hown
      have x1 := HX.o.cell 1 rfl
      have hzx := HX.o.lt
      have hzy := HY.o.lt
      rcases Nat.lt_or_ge k n with hlt | hge
      · obtain ⟨b, o, f, fcs, rfl, hS, hb, hfx, hRf, hcf⟩ := HF.o.at k (by rw [HL.o]; exact hlt)
        obtain ⟨rfl, hfs⟩ := rF_open hRf
        obtain ⟨c0, c1⟩ := (hcf.below HB.o).two
        have hfs' : f.path.size ≤ 281474976710656 := hfs
        have hzb : b < wr.heap.size := Nat.lt_of_lt_of_le hb HB.o.size
        have y4 := HY.o.cell 4 rfl
        have hfp := (field_plain HQ.o f (List.mem_of_getElem? hfx)).2
        have hts := fieldT_size f
        have hmt : (x.fields.map fieldT).take (k + 1) = (x.fields.map fieldT).take k ++ [fieldT f] := take_snoc_eq _ _ _ (by rw [List.getElem?_map, hfx]; rfl)
        have HMT := K.mk hmt
        have HKL := K.mk (show ((x.fields.map fieldT).take k).length = k by rw [List.length_take, List.length_map, HL.o]; omega)
        clear hfx hRf hcf hfs hmt
        have HTS := K.mk hts
        clear hts
        have hd : f.down = true ∨ f.down = false := by cases f.down <;> simp
        rcases hd with hd | hd
        · have HFT := K.mk (fieldT_true hd)
          rw [hd] at c1
          clear hd
          go_wp2_with (at_builtin; refine wpList_append_L (w := wr) rT rfl _ _ 35 rfl (w1.heap.size + 1) 37 i0 (.agg #[.int .i64 0, .int .i64 0, .string ⟨#[]⟩, .slice none 0 0, .slice none 0 0]) 80 Tryd.underlying35 hi hz0 hz1 hz2 rfl (by decide) v ((x.fields.map fieldT).take k) rfl HO.o (fieldT f) [.int .i64 4, .int .i64 0, .string (fieldT f), .slice none 0 0, .slice none 0 0] ⟨rfl, by have := HTS.o; unfold strMax; omega⟩ rfl ?_ (below_a1 _ _) (by unfold maxLen; rw [HKL.o]; omega) (by rw [HKL.o]; omega) (by omega) ?_)
          case _ =>
            intro j u hu
            rw [HFT.o] at hu
            exact (Blk.new wr 37 _).cell j hu
          intro v' w3 hown' hgrow hnn hat
          have HO' := K.mk (hown'.cast HMT.o.symm)
          have hne : ∀ q, q ≤ w1.heap.size → some q ≠ v.ownBlock := fun q hq h => by have := (HOW.o q h.symm).1; omega
          have HY' := K.mk ((HY.o.alloc _).grown hgrow (hne _ (Nat.le_refl _)))
          have HX' := K.mk ((HX.o.alloc _).grown hgrow (hne _ (by omega)))
          have HR' := K.mk ((HR.o.alloc _).grown hgrow (hne _ (by omega)))
          have hs3 := hgrow.size
          have HB' := K.mk ((HB.o.alloc HB.o.size _).grown hgrow (by simp; omega) (fun q hq => by have := (HOW.o q hq).1; omega))
          have y4' := HY'.o.cell 4 rfl
          have f4' := HY'.o.frozen 4
          obtain ⟨ao, q', cp, rfl⟩ : ∃ ao q' cp, v' = .slice ao q' cp := by
            obtain ⟨a1, b1, c1⟩ := hown'.form
            exact ⟨_, _, _, c1⟩
          have hs4 : w1.heap.size + 1 ≤ w3.heap.size := by simp at hs3; omega
          clear hown' hgrow hnn hat hne y4 hs3
          go_wp2_with fail
          go_roundg (n - (k + 1))
          case measure => omega
          case rel => exact ⟨k + 1, .slice ao q' cp, by omega, Nat.le_refl _, by go_num, ⟨HO'.o.farNe flat_T ⟨w1.heap.size, 4, none⟩ _ (fun h => by have h2 : w1.heap.size + 1 ≤ w1.heap.size := (HO'.o.lt _ h).1; omega)⟩, ⟨HB'.o.setCell (p := ⟨w1.heap.size, 4, none⟩) (by show w.heap.size ≤ w1.heap.size; omega) _⟩, ⟨HX'.o.far (by show w.heap.size ≠ w1.heap.size; omega) _⟩, ⟨HR'.o.far (by show w.heap.size + 1 ≠ w1.heap.size; omega) _⟩, ⟨HY'.o.set 4 _⟩, by simpa using hs4⟩
        · have HFT := K.mk (fieldT_false hd)
          rw [hd] at c1
          clear hd
          go_wp2_with (at_builtin; refine wpList_append_L (w := wr) rT rfl _ _ 35 rfl (w1.heap.size + 1) 37 i0 (.agg #[.int .i64 0, .int .i64 0, .string ⟨#[]⟩, .slice none 0 0, .slice none 0 0]) 80 Tryd.underlying35 hi hz0 hz1 hz2 rfl (by decide) v ((x.fields.map fieldT).take k) rfl HO.o (fieldT f) [.int .i64 4, .int .i64 0, .string (fieldT f), .slice none 0 0, .slice none 0 0] ⟨rfl, by have := HTS.o; unfold strMax; omega⟩ rfl ?_ (below_a1 _ _) (by unfold maxLen; rw [HKL.o]; omega) (by rw [HKL.o]; omega) (by omega) ?_)
          case _ =>
            intro j u hu
            rw [HFT.o] at hu
            exact (Blk.new wr 37 _).cell j hu
          intro v' w3 hown' hgrow hnn hat
          have HO' := K.mk (hown'.cast HMT.o.symm)
          have hne : ∀ q, q ≤ w1.heap.size → some q ≠ v.ownBlock := fun q hq h => by have := (HOW.o q h.symm).1; omega
          have HY' := K.mk ((HY.o.alloc _).grown hgrow (hne _ (Nat.le_refl _)))
          have HX' := K.mk ((HX.o.alloc _).grown hgrow (hne _ (by omega)))
          have HR' := K.mk ((HR.o.alloc _).grown hgrow (hne _ (by omega)))
          have hs3 := hgrow.size
          have HB' := K.mk ((HB.o.alloc HB.o.size _).grown hgrow (by simp; omega) (fun q hq => by have := (HOW.o q hq).1; omega))
          have y4' := HY'.o.cell 4 rfl
          have f4' := HY'.o.frozen 4
          obtain ⟨ao, q', cp, rfl⟩ : ∃ ao q' cp, v' = .slice ao q' cp := by
            obtain ⟨a1, b1, c1⟩ := hown'.form
            exact ⟨_, _, _, c1⟩
          have hs4 : w1.heap.size + 1 ≤ w3.heap.size := by simp at hs3; omega
          clear hown' hgrow hnn hat hne y4 hs3
          go_wp2_with fail
          go_roundg (n - (k + 1))
          case measure => omega
          case rel => exact ⟨k + 1, .slice ao q' cp, by omega, Nat.le_refl _, by go_num, ⟨HO'.o.farNe flat_T ⟨w1.heap.size, 4, none⟩ _ (fun h => by have h2 : w1.heap.size + 1 ≤ w1.heap.size := (HO'.o.lt _ h).1; omega)⟩, ⟨HB'.o.setCell (p := ⟨w1.heap.size, 4, none⟩) (by show w.heap.size ≤ w1.heap.size; omega) _⟩, ⟨HX'.o.far (by show w.heap.size ≠ w1.heap.size; omega) _⟩, ⟨HR'.o.far (by show w.heap.size + 1 ≠ w1.heap.size; omega) _⟩, ⟨HY'.o.set 4 _⟩, by simpa using hs4⟩
      · have hkk : k = n := by omega
        have HO2 := K.mk (HO.o.cast (show (x.fields.map fieldT).take k = x.fields.map fieldT by rw [hkk, ← HL.o, ← List.length_map (f := fieldT), List.take_length]))
        clear HO
        subst hkk
        obtain ⟨vA, vc, rfl⟩ := HO2.o.form
        have hml : (x.fields.map fieldT).length = k := by rw [List.length_map, HL.o]
        rw [hml] at HO2 HY HOW
        obtain ⟨y0, y1, y2, y3, y4⟩ := HY.o.five
        obtain ⟨x0, x1, x2⟩ := HX.o.three
        have hzr := HR.o.lt
        have hu : x.unique = true ∨ x.unique = false := by cases x.unique <;> simp
        clear hml
        rcases hu with hu | hu
        · have HU := K.mk hu
          rw [hu] at x2
          clear hu
          go_wp2_with (at_builtin; refine wpList_append_L (w := ((wr.alloc (.cells #[.string ⟨#[102, 105, 101, 108, 100, 115]⟩, .string ⟨#[110, 97, 109, 101]⟩, .string ⟨#[117, 110, 105, 113, 117, 101]⟩] 9)).alloc (.cells #[.int .i64 6, .int .i64 0, .string ⟨#[]⟩, .slice (some ⟨wr.heap.size, 0, none⟩) 3 3, .slice none 0 0] 37))) rRaw rfl _ _ 35 rfl (wr.heap.size + 1 + 1) 37 i0 (.agg #[.int .i64 0, .int .i64 0, .string ⟨#[]⟩, .slice none 0 0, .slice none 0 0]) 80 Tryd.underlying35 hi hz0 hz1 hz2 rfl (by decide) (.slice none 0 0) [] rfl (OwnL.nil _ _ _ _) [.int .i64 5, .int .i64 0, .string ⟨#[]⟩, .slice none 0 0, .slice vA k vc] [.int .i64 5, .int .i64 0, .string ⟨#[]⟩, .slice none 0 0, .slice vA k vc] ⟨rfl, rfl, one5 _ _ _ _ _ rfl rfl rfl rfl rfl⟩ (by rw [World.size_alloc, World.size_alloc]; rfl) ?_ (below_a1 _ _) (by unfold maxLen; simp) (by simp) (by simp) ?_)
          case _ => exact fun j u hu => (Blk.new _ 37 _).cell j hu
          intro v1 wb hown1 hgrow1 hnn1 hat1
          have H1 := K.mk hown1
          have hs1 := hgrow1.size
          have HG1 := K.mk hgrow1
          have HVb := K.mk (((Blk.newAt (w := wr.alloc _) (g := wr.heap.size + 1) (by simp) 37 [.int .i64 6, .int .i64 0, .string ⟨#[]⟩, .slice (some ⟨wr.heap.size, 0, none⟩) 3 3, .slice none 0 0]).alloc _).grown hgrow1 (by simp [Value.ownBlock]))
          have HNb := K.mk ((((Blk.new wr 9 [.string ⟨#[102, 105, 101, 108, 100, 115]⟩, .string ⟨#[110, 97, 109, 101]⟩, .string ⟨#[117, 110, 105, 113, 117, 101]⟩]).alloc _).alloc _).grown hgrow1 (by simp [Value.ownBlock]))
          have HXb := K.mk ((((HX.o.alloc _).alloc _).alloc _).grown hgrow1 (by simp [Value.ownBlock]))
          have HRb := K.mk ((((HR.o.alloc _).alloc _).alloc _).grown hgrow1 (by simp [Value.ownBlock]))
          have HOb := K.mk (ownL_grown flat_T (((HO2.o.alloc _).alloc _).alloc _) hgrow1 (fun k hk => by simp [Value.ownBlock]))
          have HBb := K.mk ((((HB.o.alloc HB.o.size _).alloc (HB.o.alloc HB.o.size _).size _).alloc ((HB.o.alloc HB.o.size _).alloc (HB.o.alloc HB.o.size _).size _).size _).grown hgrow1 (by simp; omega) (fun q hq => by simp [Value.ownBlock] at hq))
          obtain ⟨a1, q1, c1, rfl⟩ : ∃ a q c, v1 = .slice a q c := by
            obtain ⟨a, b, c⟩ := hown1.form
            exact ⟨_, _, _, c⟩
          have hwb : wr.heap.size + 1 + 1 < wb.heap.size := by simp at hs1; omega
          have b4 := HVb.o.cell 4 rfl
          have fb4 := HVb.o.frozen 4
          have s4 := fun u => (HVb.o.set 4 u).cell 4 rfl
          have s0 := fun u => (HXb.o.far (p := ⟨wr.heap.size + 1, 4, none⟩) (by show w.heap.size ≠ wr.heap.size + 1; omega) u).cell 0 rfl
          clear hown1 hgrow1 hnn1 hat1 hs1 y0 y1 y2 y3 y4 x0 x1 x2
          go_wp2_with (at_builtin; refine wpList_append_L (w := wb.setCell ⟨wr.heap.size + 1, 4, none⟩ (.slice a1 q1 c1)) rRaw rfl _ _ 35 rfl (wr.heap.size + 1 + 1) 37 i0 (.agg #[.int .i64 0, .int .i64 0, .string ⟨#[]⟩, .slice none 0 0, .slice none 0 0]) 80 Tryd.underlying35 hi hz0 hz1 hz2 rfl (by decide) (.slice a1 q1 c1) ([] ++ [[.int .i64 5, .int .i64 0, .string ⟨#[]⟩, .slice none 0 0, .slice vA k vc]]) rfl (H1.o.farNe flat_raw ⟨wr.heap.size + 1, 4, none⟩ _ (fun h => by have h2 : wr.heap.size + 1 + 1 ≤ wr.heap.size + 1 := (H1.o.lt _ h).1; omega)) [.int .i64 4, .int .i64 0, .string x.name, .slice none 0 0, .slice none 0 0] [.int .i64 4, .int .i64 0, .string x.name, .slice none 0 0, .slice none 0 0] ⟨rfl, rfl, one5 _ _ _ _ _ rfl rfl rfl rfl rfl⟩ (by rw [World.size_setCell]; rfl) ?_ (below_a1 _ _) (by unfold maxLen; simp) (by simp) (by simp [World.setCell]; omega) ?_)
          case _ => exact fun j u hu => (Blk.new _ 37 _).cell j hu
          intro v2 wc hown2 hgrow2 hnn2 hat2
          have H2 := K.mk hown2
          have hs2 := hgrow2.size
          have hn1 : ∀ q, q ≤ wr.heap.size + 1 → some q ≠ (Value.slice a1 q1 c1).ownBlock := fun q hq h => by have := (H1.o.lt _ h.symm).1; omega
          have HVc := K.mk (((HVb.o.set 4 (.slice a1 q1 c1)).alloc _).grown hgrow2 (hn1 _ (Nat.le_refl _)))
          have HNc := K.mk (((HNb.o.far (p := ⟨wr.heap.size + 1, 4, none⟩) (by simp) _).alloc _).grown hgrow2 (hn1 _ (by omega)))
          have HXc := K.mk (((HXb.o.far (p := ⟨wr.heap.size + 1, 4, none⟩) (by show w.heap.size ≠ wr.heap.size + 1; omega) _).alloc _).grown hgrow2 (hn1 _ (by omega)))
          have HRc := K.mk (((HRb.o.far (p := ⟨wr.heap.size + 1, 4, none⟩) (by show w.heap.size + 1 ≠ wr.heap.size + 1; omega) _).alloc _).grown hgrow2 (hn1 _ (by omega)))
          have HOc := K.mk (ownL_grown flat_T ((HOb.o.farNe flat_T ⟨wr.heap.size + 1, 4, none⟩ (.slice a1 q1 c1) (fun h => by have h2 : wr.heap.size + 1 < wr.heap.size := (HOW.o _ h).2; omega)).alloc _) hgrow2 (fun k hk => hn1 _ (by have := (HOW.o _ hk).2; omega)))
          have HBc := K.mk (((HBb.o.setCell (p := ⟨wr.heap.size + 1, 4, none⟩) (by show w.heap.size ≤ wr.heap.size + 1; omega) (.slice a1 q1 c1)).alloc (by simp [World.setCell]; omega) _).grown hgrow2 (by simp [World.setCell]; omega) (fun q hq => by have := (H1.o.lt _ hq).1; omega))
          obtain ⟨a2, q2, c2, rfl⟩ : ∃ a q c, v2 = .slice a q c := by
            obtain ⟨a, b, c⟩ := hown2.form
            exact ⟨_, _, _, c⟩
          have hwc : wr.heap.size + 1 + 1 < wc.heap.size := by simp [World.setCell] at hs2; omega
          have d4 := HVc.o.cell 4 rfl
          have fd4 := HVc.o.frozen 4
          have t4 := fun u => (HVc.o.set 4 u).cell 4 rfl
          clear hown2 hgrow2 hnn2 hat2 hs2 hn1 b4 fb4 s4 s0
          go_wp2_with (at_builtin; refine wpList_append_L (w := wc.setCell ⟨wr.heap.size + 1, 4, none⟩ (.slice a2 q2 c2)) rRaw rfl _ _ 35 rfl (wr.heap.size + 1 + 1) 37 i0 (.agg #[.int .i64 0, .int .i64 0, .string ⟨#[]⟩, .slice none 0 0, .slice none 0 0]) 80 Tryd.underlying35 hi hz0 hz1 hz2 rfl (by decide) (.slice a2 q2 c2) ([] ++ [[.int .i64 5, .int .i64 0, .string ⟨#[]⟩, .slice none 0 0, .slice vA k vc]] ++ [[.int .i64 4, .int .i64 0, .string x.name, .slice none 0 0, .slice none 0 0]]) rfl (H2.o.farNe flat_raw ⟨wr.heap.size + 1, 4, none⟩ _ (fun h => by have h2 : wr.heap.size + 1 + 1 ≤ wr.heap.size + 1 := (H2.o.lt _ h).1; omega)) [.int .i64 2, .int .i64 0, .string ⟨#[]⟩, .slice none 0 0, .slice none 0 0] [.int .i64 2, .int .i64 0, .string ⟨#[]⟩, .slice none 0 0, .slice none 0 0] ⟨rfl, rfl, one5 _ _ _ _ _ rfl rfl rfl rfl rfl⟩ (by rw [World.size_setCell]; rfl) ?_ (below_a1 _ _) (by unfold maxLen; simp) (by simp) (by simp [World.setCell]; omega) ?_)
          case _ => exact fun j u hu => (Blk.new _ 37 _).cell j hu
          intro v3 wd hown3 hgrow3 hnn3 hat3
          have H3 := K.mk hown3
          have hs3 := hgrow3.size
          have hn1 : ∀ q, q ≤ wr.heap.size + 1 → some q ≠ (Value.slice a2 q2 c2).ownBlock := fun q hq h => by have := (H2.o.lt _ h.symm).1; omega
          have HVd := K.mk (((HVc.o.set 4 (.slice a2 q2 c2)).alloc _).grown hgrow3 (hn1 _ (Nat.le_refl _)))
          have HNd := K.mk (((HNc.o.far (p := ⟨wr.heap.size + 1, 4, none⟩) (by simp) _).alloc _).grown hgrow3 (hn1 _ (by omega)))
          have HRd := K.mk (((HRc.o.far (p := ⟨wr.heap.size + 1, 4, none⟩) (by show w.heap.size + 1 ≠ wr.heap.size + 1; omega) _).alloc _).grown hgrow3 (hn1 _ (by omega)))
          have HOd := K.mk (ownL_grown flat_T ((HOc.o.farNe flat_T ⟨wr.heap.size + 1, 4, none⟩ (.slice a2 q2 c2) (fun h => by have h2 : wr.heap.size + 1 < wr.heap.size := (HOW.o _ h).2; omega)).alloc _) hgrow3 (fun k hk => hn1 _ (by have := (HOW.o _ hk).2; omega)))
          have HBd := K.mk (((HBc.o.setCell (p := ⟨wr.heap.size + 1, 4, none⟩) (by show w.heap.size ≤ wr.heap.size + 1; omega) (.slice a2 q2 c2)).alloc (by simp [World.setCell]; omega) _).grown hgrow3 (by simp [World.setCell]; omega) (fun q hq => by have := (H2.o.lt _ hq).1; omega))
          obtain ⟨a3, q3, c3, rfl⟩ : ∃ a q c, v3 = .slice a q c := by
            obtain ⟨a, b, c⟩ := hown3.form
            exact ⟨_, _, _, c⟩
          have e4 := HVd.o.cell 4 rfl
          have fe4 := HVd.o.frozen 4
          have w0 := fun u => (HVd.o.set 4 u).cell 0 rfl
          have w1' := fun u => (HVd.o.set 4 u).cell 1 rfl
          have w2' := fun u => (HVd.o.set 4 u).cell 2 rfl
          have w3' := fun u => (HVd.o.set 4 u).cell 3 rfl
          have w4' := fun u => (HVd.o.set 4 u).cell 4 rfl
          have HRs := K.mk (HRd.o.far (p := ⟨wr.heap.size + 1, 4, none⟩) (by show w.heap.size + 1 ≠ wr.heap.size + 1; omega) (.slice a3 q3 c3))
          obtain ⟨r0, r1, r2, r3, r4⟩ := HRs.o.five
          have f0 := HRs.o.frozen 0
          have f1 := HRs.o.frozen 1
          have f2 := HRs.o.frozen 2
          have f3 := HRs.o.frozen 3
          have f4 := HRs.o.frozen 4
          clear hown3 hgrow3 hnn3 hat3 hs3 hn1 d4 fd4 t4
          go_wp2_with fail
          refine bodyPost_ret (v := .tuple #[.agg #[.int .i64 6, .int .i64 0, .string ⟨#[]⟩, .slice (some ⟨wr.heap.size, 0, none⟩) 3 3, .slice a3 q3 c3], .int .i64 0]) (by simp [zeroC, results, Tryd.results19, go_sem, r0, r1, r2, r3, r4, HRs.o.lt]) rfl ?_
          refine ⟨below_res (HBd.o.setCell (p := ⟨wr.heap.size + 1, 4, none⟩) (by show w.heap.size ≤ wr.heap.size + 1; omega) _) (by simp) _ _ _ _ _, ?_⟩
          rw [if_pos HQ.o]
          refine ⟨_, rfl, show_rv2 x _ (.slice vA k vc) (.slice a3 q3 c3) wr.heap.size HNS.o ?_ ((HNd.o.far (p := ⟨wr.heap.size + 1, 4, none⟩) (by simp) _).res (by omega) _ _ _ _ _) ?_⟩
          · exact ((HOd.o.farNe flat_T ⟨wr.heap.size + 1, 4, none⟩ _ (fun h => by have h2 : wr.heap.size + 1 < wr.heap.size := (HOW.o _ h).2; omega)).res flat_T (g := w.heap.size + 1) (fun h => by have h2 : w1.heap.size + 1 ≤ w.heap.size + 1 := (HOW.o _ h).1; omega) _ _ _ _ _).slice (by rw [List.length_map, HL.o]; unfold strMax; omega)
          · rw [HU.o]
            exact ((H3.o.farNe flat_raw ⟨wr.heap.size + 1, 4, none⟩ _ (fun h => by have h2 : wr.heap.size + 1 + 1 ≤ wr.heap.size + 1 := (H3.o.lt _ h).1; omega)).res flat_raw (g := w.heap.size + 1) (fun h => by have h2 : wr.heap.size + 1 + 1 ≤ w.heap.size + 1 := (H3.o.lt _ h).1; omega) _ _ _ _ _).slice (show 3 ≤ strMax by decide)
        · have HU := K.mk hu
          rw [hu] at x2
          clear hu
          go_wp2_with (at_builtin; refine wpList_append_L (w := ((wr.alloc (.cells #[.string ⟨#[102, 105, 101, 108, 100, 115]⟩, .string ⟨#[110, 97, 109, 101]⟩, .string ⟨#[117, 110, 105, 113, 117, 101]⟩] 9)).alloc (.cells #[.int .i64 6, .int .i64 0, .string ⟨#[]⟩, .slice (some ⟨wr.heap.size, 0, none⟩) 3 3, .slice none 0 0] 37))) rRaw rfl _ _ 35 rfl (wr.heap.size + 1 + 1) 37 i0 (.agg #[.int .i64 0, .int .i64 0, .string ⟨#[]⟩, .slice none 0 0, .slice none 0 0]) 80 Tryd.underlying35 hi hz0 hz1 hz2 rfl (by decide) (.slice none 0 0) [] rfl (OwnL.nil _ _ _ _) [.int .i64 5, .int .i64 0, .string ⟨#[]⟩, .slice none 0 0, .slice vA k vc] [.int .i64 5, .int .i64 0, .string ⟨#[]⟩, .slice none 0 0, .slice vA k vc] ⟨rfl, rfl, one5 _ _ _ _ _ rfl rfl rfl rfl rfl⟩ (by rw [World.size_alloc, World.size_alloc]; rfl) ?_ (below_a1 _ _) (by unfold maxLen; simp) (by simp) (by simp) ?_)
          case _ => exact fun j u hu => (Blk.new _ 37 _).cell j hu
          intro v1 wb hown1 hgrow1 hnn1 hat1
          have H1 := K.mk hown1
          have hs1 := hgrow1.size
          have HG1 := K.mk hgrow1
          have HVb := K.mk (((Blk.newAt (w := wr.alloc _) (g := wr.heap.size + 1) (by simp) 37 [.int .i64 6, .int .i64 0, .string ⟨#[]⟩, .slice (some ⟨wr.heap.size, 0, none⟩) 3 3, .slice none 0 0]).alloc _).grown hgrow1 (by simp [Value.ownBlock]))
          have HNb := K.mk ((((Blk.new wr 9 [.string ⟨#[102, 105, 101, 108, 100, 115]⟩, .string ⟨#[110, 97, 109, 101]⟩, .string ⟨#[117, 110, 105, 113, 117, 101]⟩]).alloc _).alloc _).grown hgrow1 (by simp [Value.ownBlock]))
          have HXb := K.mk ((((HX.o.alloc _).alloc _).alloc _).grown hgrow1 (by simp [Value.ownBlock]))
          have HRb := K.mk ((((HR.o.alloc _).alloc _).alloc _).grown hgrow1 (by simp [Value.ownBlock]))
          have HOb := K.mk (ownL_grown flat_T (((HO2.o.alloc _).alloc _).alloc _) hgrow1 (fun k hk => by simp [Value.ownBlock]))
          have HBb := K.mk ((((HB.o.alloc HB.o.size _).alloc (HB.o.alloc HB.o.size _).size _).alloc ((HB.o.alloc HB.o.size _).alloc (HB.o.alloc HB.o.size _).size _).size _).grown hgrow1 (by simp; omega) (fun q hq => by simp [Value.ownBlock] at hq))
          obtain ⟨a1, q1, c1, rfl⟩ : ∃ a q c, v1 = .slice a q c := by
            obtain ⟨a, b, c⟩ := hown1.form
            exact ⟨_, _, _, c⟩
          have hwb : wr.heap.size + 1 + 1 < wb.heap.size := by simp at hs1; omega
          have b4 := HVb.o.cell 4 rfl
          have fb4 := HVb.o.frozen 4
          have s4 := fun u => (HVb.o.set 4 u).cell 4 rfl
          have s0 := fun u => (HXb.o.far (p := ⟨wr.heap.size + 1, 4, none⟩) (by show w.heap.size ≠ wr.heap.size + 1; omega) u).cell 0 rfl
          clear hown1 hgrow1 hnn1 hat1 hs1 y0 y1 y2 y3 y4 x0 x1 x2
          go_wp2_with (at_builtin; refine wpList_append_L (w := wb.setCell ⟨wr.heap.size + 1, 4, none⟩ (.slice a1 q1 c1)) rRaw rfl _ _ 35 rfl (wr.heap.size + 1 + 1) 37 i0 (.agg #[.int .i64 0, .int .i64 0, .string ⟨#[]⟩, .slice none 0 0, .slice none 0 0]) 80 Tryd.underlying35 hi hz0 hz1 hz2 rfl (by decide) (.slice a1 q1 c1) ([] ++ [[.int .i64 5, .int .i64 0, .string ⟨#[]⟩, .slice none 0 0, .slice vA k vc]]) rfl (H1.o.farNe flat_raw ⟨wr.heap.size + 1, 4, none⟩ _ (fun h => by have h2 : wr.heap.size + 1 + 1 ≤ wr.heap.size + 1 := (H1.o.lt _ h).1; omega)) [.int .i64 4, .int .i64 0, .string x.name, .slice none 0 0, .slice none 0 0] [.int .i64 4, .int .i64 0, .string x.name, .slice none 0 0, .slice none 0 0] ⟨rfl, rfl, one5 _ _ _ _ _ rfl rfl rfl rfl rfl⟩ (by rw [World.size_setCell]; rfl) ?_ (below_a1 _ _) (by unfold maxLen; simp) (by simp) (by simp [World.setCell]; omega) ?_)
          case _ => exact fun j u hu => (Blk.new _ 37 _).cell j hu
          intro v2 wc hown2 hgrow2 hnn2 hat2
          have H2 := K.mk hown2
          have hs2 := hgrow2.size
          have hn1 : ∀ q, q ≤ wr.heap.size + 1 → some q ≠ (Value.slice a1 q1 c1).ownBlock := fun q hq h => by have := (H1.o.lt _ h.symm).1; omega
          have HVc := K.mk (((HVb.o.set 4 (.slice a1 q1 c1)).alloc _).grown hgrow2 (hn1 _ (Nat.le_refl _)))
          have HNc := K.mk (((HNb.o.far (p := ⟨wr.heap.size + 1, 4, none⟩) (by simp) _).alloc _).grown hgrow2 (hn1 _ (by omega)))
          have HXc := K.mk (((HXb.o.far (p := ⟨wr.heap.size + 1, 4, none⟩) (by show w.heap.size ≠ wr.heap.size + 1; omega) _).alloc _).grown hgrow2 (hn1 _ (by omega)))
          have HRc := K.mk (((HRb.o.far (p := ⟨wr.heap.size + 1, 4, none⟩) (by show w.heap.size + 1 ≠ wr.heap.size + 1; omega) _).alloc _).grown hgrow2 (hn1 _ (by omega)))
          have HOc := K.mk (ownL_grown flat_T ((HOb.o.farNe flat_T ⟨wr.heap.size + 1, 4, none⟩ (.slice a1 q1 c1) (fun h => by have h2 : wr.heap.size + 1 < wr.heap.size := (HOW.o _ h).2; omega)).alloc _) hgrow2 (fun k hk => hn1 _ (by have := (HOW.o _ hk).2; omega)))
          have HBc := K.mk (((HBb.o.setCell (p := ⟨wr.heap.size + 1, 4, none⟩) (by show w.heap.size ≤ wr.heap.size + 1; omega) (.slice a1 q1 c1)).alloc (by simp [World.setCell]; omega) _).grown hgrow2 (by simp [World.setCell]; omega) (fun q hq => by have := (H1.o.lt _ hq).1; omega))
          obtain ⟨a2, q2, c2, rfl⟩ : ∃ a q c, v2 = .slice a q c := by
            obtain ⟨a, b, c⟩ := hown2.form
            exact ⟨_, _, _, c⟩
          have hwc : wr.heap.size + 1 + 1 < wc.heap.size := by simp [World.setCell] at hs2; omega
          have d4 := HVc.o.cell 4 rfl
          have fd4 := HVc.o.frozen 4
          have t4 := fun u => (HVc.o.set 4 u).cell 4 rfl
          clear hown2 hgrow2 hnn2 hat2 hs2 hn1 b4 fb4 s4 s0
          go_wp2_with (at_builtin; refine wpList_append_L (w := wc.setCell ⟨wr.heap.size + 1, 4, none⟩ (.slice a2 q2 c2)) rRaw rfl _ _ 35 rfl (wr.heap.size + 1 + 1) 37 i0 (.agg #[.int .i64 0, .int .i64 0, .string ⟨#[]⟩, .slice none 0 0, .slice none 0 0]) 80 Tryd.underlying35 hi hz0 hz1 hz2 rfl (by decide) (.slice a2 q2 c2) ([] ++ [[.int .i64 5, .int .i64 0, .string ⟨#[]⟩, .slice none 0 0, .slice vA k vc]] ++ [[.int .i64 4, .int .i64 0, .string x.name, .slice none 0 0, .slice none 0 0]]) rfl (H2.o.farNe flat_raw ⟨wr.heap.size + 1, 4, none⟩ _ (fun h => by have h2 : wr.heap.size + 1 + 1 ≤ wr.heap.size + 1 := (H2.o.lt _ h).1; omega)) [.int .i64 1, .int .i64 0, .string ⟨#[]⟩, .slice none 0 0, .slice none 0 0] [.int .i64 1, .int .i64 0, .string ⟨#[]⟩, .slice none 0 0, .slice none 0 0] ⟨rfl, rfl, one5 _ _ _ _ _ rfl rfl rfl rfl rfl⟩ (by rw [World.size_setCell]; rfl) ?_ (below_a1 _ _) (by unfold maxLen; simp) (by simp) (by simp [World.setCell]; omega) ?_)
          case _ => exact fun j u hu => (Blk.new _ 37 _).cell j hu
          intro v3 wd hown3 hgrow3 hnn3 hat3
          have H3 := K.mk hown3
          have hs3 := hgrow3.size
          have hn1 : ∀ q, q ≤ wr.heap.size + 1 → some q ≠ (Value.slice a2 q2 c2).ownBlock := fun q hq h => by have := (H2.o.lt _ h.symm).1; omega
          have HVd := K.mk (((HVc.o.set 4 (.slice a2 q2 c2)).alloc _).grown hgrow3 (hn1 _ (Nat.le_refl _)))
          have HNd := K.mk (((HNc.o.far (p := ⟨wr.heap.size + 1, 4, none⟩) (by simp) _).alloc _).grown hgrow3 (hn1 _ (by omega)))
          have HRd := K.mk (((HRc.o.far (p := ⟨wr.heap.size + 1, 4, none⟩) (by show w.heap.size + 1 ≠ wr.heap.size + 1; omega) _).alloc _).grown hgrow3 (hn1 _ (by omega)))
          have HOd := K.mk (ownL_grown flat_T ((HOc.o.farNe flat_T ⟨wr.heap.size + 1, 4, none⟩ (.slice a2 q2 c2) (fun h => by have h2 : wr.heap.size + 1 < wr.heap.size := (HOW.o _ h).2; omega)).alloc _) hgrow3 (fun k hk => hn1 _ (by have := (HOW.o _ hk).2; omega)))
          have HBd := K.mk (((HBc.o.setCell (p := ⟨wr.heap.size + 1, 4, none⟩) (by show w.heap.size ≤ wr.heap.size + 1; omega) (.slice a2 q2 c2)).alloc (by simp [World.setCell]; omega) _).grown hgrow3 (by simp [World.setCell]; omega) (fun q hq => by have := (H2.o.lt _ hq).1; omega))
          obtain ⟨a3, q3, c3, rfl⟩ : ∃ a q c, v3 = .slice a q c := by
            obtain ⟨a, b, c⟩ := hown3.form
            exact ⟨_, _, _, c⟩
          have e4 := HVd.o.cell 4 rfl
          have fe4 := HVd.o.frozen 4
          have w0 := fun u => (HVd.o.set 4 u).cell 0 rfl
          have w1' := fun u => (HVd.o.set 4 u).cell 1 rfl
          have w2' := fun u => (HVd.o.set 4 u).cell 2 rfl
          have w3' := fun u => (HVd.o.set 4 u).cell 3 rfl
          have w4' := fun u => (HVd.o.set 4 u).cell 4 rfl
          have HRs := K.mk (HRd.o.far (p := ⟨wr.heap.size + 1, 4, none⟩) (by show w.heap.size + 1 ≠ wr.heap.size + 1; omega) (.slice a3 q3 c3))
          obtain ⟨r0, r1, r2, r3, r4⟩ := HRs.o.five
          have f0 := HRs.o.frozen 0
          have f1 := HRs.o.frozen 1
          have f2 := HRs.o.frozen 2
          have f3 := HRs.o.frozen 3
          have f4 := HRs.o.frozen 4
          clear hown3 hgrow3 hnn3 hat3 hs3 hn1 d4 fd4 t4
          go_wp2_with fail
          refine bodyPost_ret (v := .tuple #[.agg #[.int .i64 6, .int .i64 0, .string ⟨#[]⟩, .slice (some ⟨wr.heap.size, 0, none⟩) 3 3, .slice a3 q3 c3], .int .i64 0]) (by simp [zeroC, results, Tryd.results19, go_sem, r0, r1, r2, r3, r4, HRs.o.lt]) rfl ?_
          refine ⟨below_res (HBd.o.setCell (p := ⟨wr.heap.size + 1, 4, none⟩) (by show w.heap.size ≤ wr.heap.size + 1; omega) _) (by simp) _ _ _ _ _, ?_⟩
          rw [if_pos HQ.o]
          refine ⟨_, rfl, show_rv2 x _ (.slice vA k vc) (.slice a3 q3 c3) wr.heap.size HNS.o ?_ ((HNd.o.far (p := ⟨wr.heap.size + 1, 4, none⟩) (by simp) _).res (by omega) _ _ _ _ _) ?_⟩
          · exact ((HOd.o.farNe flat_T ⟨wr.heap.size + 1, 4, none⟩ _ (fun h => by have h2 : wr.heap.size + 1 < wr.heap.size := (HOW.o _ h).2; omega)).res flat_T (g := w.heap.size + 1) (fun h => by have h2 : w1.heap.size + 1 ≤ w.heap.size + 1 := (HOW.o _ h).1; omega) _ _ _ _ _).slice (by rw [List.length_map, HL.o]; unfold strMax; omega)
          · rw [HU.o]
            exact ((H3.o.farNe flat_raw ⟨wr.heap.size + 1, 4, none⟩ _ (fun h => by have h2 : wr.heap.size + 1 + 1 ≤ wr.heap.size + 1 := (H3.o.lt _ h).1; omega)).res flat_raw (g := w.heap.size + 1) (fun h => by have h2 : wr.heap.size + 1 + 1 ≤ w.heap.size + 1 := (H3.o.lt _ h).1; omega) _ _ _ _ _).slice (show 3 ≤ strMax by decide)
end Go.Proofs.YtgcbkecpplhknaaDoor
