/- Walks: Show of indexes, of the program. -/
import Derived.Test.YtgcbkecpplhknaaDoorEShowP
import Derived.Test.YtgcbkecpplhknaaDoorEForm


import Derived.WalkKit
import Derived.Deep.QuietTactic
import Derived.BigQuiet
import Derived.Outline
import Derived.Deep.DeepMust
import Derived.Deep.CutBlock
import Derived.Deep.DeepCutAuto
import Derived.Deep.RegionWith
import Derived.WalkSpells
import Derived.WalkLawsBesides
import Derived.Test.YtgcbkecpplhknaaDoorMu
import Derived.Test.YtgcbkecpplhknaaDoorProg
set_option linter.unusedVariables false
set_option linter.unusedSimpArgs false
namespace Go.Proofs.YtgcbkecpplhknaaDoor
open Go.RowKit Go.Mu

theorem val_info : ∃ i, Tryd.prog.info? 37 = some i ∧ i.zero = some (.agg #[.int .i64 0, .int .i64 0, .string ⟨#[]⟩, .slice none 0 0, .slice none 0 0]) ∧ i.size = 5 ∧ i.bytes = 80 := by
  have h : (Tryd.prog.info? 37).map (fun i => (i.zero, i.size, i.bytes)) = some (some (.agg #[.int .i64 0, .int .i64 0, .string ⟨#[]⟩, .slice none 0 0, .slice none 0 0]), 5, 80) := by kernel_rfl
  obtain ⟨i, hi, he⟩ := Option.map_eq_some_iff.1 h
  injection he with h1 h2
  injection h2 with h2 h3
  exact ⟨i, hi, h1, h2, h3⟩
theorem fieldT_size (f : FD) : (fieldT f).size ≤ f.path.size + 1 := by
  unfold fieldT
  cases f.down
  · simp
  · simp only [if_true]; rw [ByteArray.size_append, size_bs1]; omega
theorem fieldT_true {f : FD} (h : f.down = true) : fieldT f = bs [45] ++ f.path := by unfold fieldT; rw [h]; rfl
theorem fieldT_false {f : FD} (h : f.down = false) : fieldT f = f.path := by unfold fieldT; rw [h]; rfl
theorem slice_nil {α : Type} (R : α → List Value → Prop) (sz : Nat) (w : World) (S : Blocks) : SliceR R sz w S [] (.slice none 0 0) := ⟨none, 0, rfl, Nat.le_refl _, capOk_nil, fun h => absurd rfl h⟩
/-- The value of no kind. -/
def zeroV : JV := ⟨0, 0, ByteArray.empty, [], []⟩
def zeroC : List Value := [.int .i64 0, .int .i64 0, .string ⟨#[]⟩, .slice none 0 0, .slice none 0 0]
theorem kb (k : Int) (h0 : 0 ≤ k) (h6 : k ≤ 6) : IntKind.i64.min ≤ k ∧ k ≤ IntKind.i64.max := ⟨Int.le_trans (by decide) h0, Int.le_trans h6 (by decide)⟩
theorem rv_leafK (w : World) (S : Blocks) (k : Int) (h0 : 0 ≤ k) (h6 : k ≤ 6) : RV w S (leafK k) [.int .i64 k, .int .i64 0, .string ⟨#[]⟩, .slice none 0 0, .slice none 0 0] :=
  RV.close (v := leafK k) (slice_nil _ _ _ _) (slice_nil _ _ _ _) (kb k h0 h6) (kb 0 (by decide) (by decide)) (show ByteArray.empty.size ≤ strMax by decide)
theorem rv_leafT (w : World) (S : Blocks) (s : ByteArray) (h : s.size ≤ strMax) : RV w S (leafT s) [.int .i64 4, .int .i64 0, .string s, .slice none 0 0, .slice none 0 0] :=
  RV.close (v := leafT s) (slice_nil _ _ _ _) (slice_nil _ _ _ _) (kb 4 (by decide) (by decide)) (kb 0 (by decide) (by decide)) h
theorem rv_texts {w : World} {S : Blocks} {ts : List ByteArray} {v : Value} (h : SliceR (rT.R w S) 5 w S ts v) : RV w S ⟨5, 0, ByteArray.empty, [], ts.map leafT⟩ [.int .i64 5, .int .i64 0, .string ⟨#[]⟩, .slice none 0 0, v] :=
  RV.close (v := ⟨5, 0, ByteArray.empty, [], ts.map leafT⟩) (slice_nil _ _ _ _) (h.mapR leafT (fun s cs ⟨hc, hs⟩ => by subst hc; exact rv_leafT _ _ s hs)) (kb 5 (by decide) (by decide)) (kb 0 (by decide) (by decide)) (show ByteArray.empty.size ≤ strMax by decide)

/-- What lies whole reads as the value that an index shows. -/
theorem show_rv (x : IX) (w : World) (v : Value) (n1 n2 : Nat) (hn : x.name.size ≤ strMax) (hl : SliceR (rT.R w (fun _ => True)) 5 w (fun _ => True) (x.fields.map fieldT) v)
    (h1 : Blk w n1 9 [.string nmFields, .string nmName, .string nmUnique])
    (h2 : Blk w n2 37 [.int .i64 5, .int .i64 0, .string ⟨#[]⟩, .slice none 0 0, v, .int .i64 4, .int .i64 0, .string x.name, .slice none 0 0, .slice none 0 0, .int .i64 (if x.unique then 2 else 1), .int .i64 0, .string ⟨#[]⟩, .slice none 0 0, .slice none 0 0]) :
    RV w (fun _ => True) (showX x) [.int .i64 6, .int .i64 0, .string ⟨#[]⟩, .slice (some ⟨n1, 0, none⟩) 3 3, .slice (some ⟨n2, 0, none⟩) 3 3] := by
  have hN := SliceR.ofBlk (r := rStr) (w := w) (S := fun _ => True) (xs := [nmFields, nmName, nmUnique]) [[.string nmFields], [.string nmName], [.string nmUnique]] rfl
    (fun j x cs hx hc => by
      match j, hx, hc with
      | 0, hx, hc => simp at hx hc; subst hx hc; exact ⟨rfl, by decide⟩
      | 1, hx, hc => simp at hx hc; subst hx hc; exact ⟨rfl, by decide⟩
      | 2, hx, hc => simp at hx hc; subst hx hc; exact ⟨rfl, by decide⟩
      | j + 3, hx, hc => simp at hx) h1 trivial (by decide)
  have hI := SliceR.ofBlk (r := rV) (w := w) (S := fun _ => True) (xs := [(⟨5, 0, ByteArray.empty, [], (x.fields.map fieldT).map leafT⟩ : JV), leafT x.name, leafK (if x.unique then 2 else 1)])
    [[.int .i64 5, .int .i64 0, .string ⟨#[]⟩, .slice none 0 0, v], [.int .i64 4, .int .i64 0, .string x.name, .slice none 0 0, .slice none 0 0], [.int .i64 (if x.unique then 2 else 1), .int .i64 0, .string ⟨#[]⟩, .slice none 0 0, .slice none 0 0]] rfl
    (fun j y cs hx hc => by
      match j, hx, hc with
      | 0, hx, hc => simp only [List.getElem?_cons_zero, Option.some.injEq] at hx hc; subst hx hc; exact rv_texts hl
      | 1, hx, hc => simp only [List.getElem?_cons_succ, List.getElem?_cons_zero, Option.some.injEq] at hx hc; subst hx hc; exact rv_leafT _ _ _ hn
      | 2, hx, hc => simp only [List.getElem?_cons_succ, List.getElem?_cons_zero, Option.some.injEq] at hx hc; subst hx hc; exact rv_leafK _ _ _ (by split <;> omega) (by split <;> omega)
      | j + 3, hx, hc => simp at hx) h2 trivial (show 3 ≤ strMax by decide)
  rw [List.map_map] at hI
  exact RV.close (v := showX x) hN hI (kb 6 (by decide) (by decide)) (kb 0 (by decide) (by decide)) (show ByteArray.empty.size ≤ strMax by decide)

/-- The result's cells, and three blocks behind it. -/
theorem res_cells {w : World} {g : Nat} {t : TypeId} {cs : List Value} (h : Blk w g t cs) (hl : cs.length = 5) (u0 u1 u2 u3 u4 : Value) (o1 o2 o3 : Obj) :
    Blk ((((((((w.setCell ⟨g, 0, none⟩ u0).setCell ⟨g, 1, none⟩ u1).setCell ⟨g, 2, none⟩ u2).setCell ⟨g, 3, none⟩ u3).setCell ⟨g, 4, none⟩ u4).alloc o1).alloc o2).alloc o3) g t [u0, u1, u2, u3, u4] := by
  match cs, hl with
  | [a, b, c, d, e], _ => exact (((((((h.set 0 u0).set 1 u1).set 2 u2).set 3 u3).set 4 u4).alloc o1).alloc o2).alloc o3
/-- What Show leaves. -/
def ShowQ (x : IX) (w : World) (e : Ending) (w' : World) : Prop :=
  Below w.heap.size w w' ∧ if formX x = true then ∃ cs, e = .returned (.tuple #[.agg cs.toArray, .int .i64 0]) ∧ RV w' (fun _ => True) (showX x) cs else e = .returned (.tuple #[.agg zeroC.toArray, .int .i64 2])

set_option maxRecDepth 100000 in
set_option maxHeartbeats 8000000 in
theorem Show_calls (x : IX) (cs : List Value) (S : Blocks) (w : World) (h : rIX.R w S x cs) (hT : Tabs w) : Calls Tryd.prog 18 #[.agg cs.toArray] w (ShowQ x w) := by
  obtain ⟨i0, hi, hz0, hz1, hz2⟩ := val_info
  have HC := K.mk (fun W (hW : Below w.heap.size w W) => Formed_calls x cs S W (rIX.below h hW) (hT.below hW))
  obtain ⟨A, c, rfl, hf, hns⟩ := rIX_open h
  have hlen := hf.len_le
  have HF := K.mk hf
  have HNS := K.mk hns
  clear hf h hT hns
  cases hq : formX x
  · rw [hq] at HC
    have HQ := K.mk hq
    clear hq
    go_enter Tryd.func18, Tryd.ntmps18
    go_wp2_with (go_at_call 12; go_must (refine (HC.o _ (below_a2 _ _ _)).mono ?_); rintro e w1 ⟨rfl, hb1⟩; have HR := K.mk ((Blk.new2 _ _ _ _).below hb1 (by simp)); have HB := K.mk (below2 (below_a2 _ _ _) hb1); obtain ⟨r0, r1, r2, r3, r4⟩ := HR.o.five; have f0 := HR.o.frozen 0; have f1 := HR.o.frozen 1; have f2 := HR.o.frozen 2; have f3 := HR.o.frozen 3; have f4 := HR.o.frozen 4; clear hb1)
    refine bodyPost_ret (v := .tuple #[.agg zeroC.toArray, .int .i64 2]) (by simp [zeroC, results, Tryd.results18, go_sem, r0, r1, r2, r3, r4, HR.o.lt]) rfl ?_
    exact ⟨below_res HB.o (by simp) _ _ _ _ _, by rw [HQ.o]; rfl⟩
  · rw [hq] at HC
    have HQ := K.mk hq
    have hl3 := (formX_len hq).1
    generalize hn : x.fields.length = n at *
    have HL := K.mk hn
    clear hq hn
    go_enter Tryd.func18, Tryd.ntmps18
    go_wp2_with (go_at_call 12; go_must (refine (HC.o _ (below_a2 _ _ _)).mono ?_); rintro e w1 ⟨rfl, hb1⟩; have HR := K.mk ((Blk.new2 _ _ _ _).below hb1 (by simp)); have HX := K.mk ((Blk.new1 _ _ _ _).below hb1 (by simp; omega)); have HB := K.mk (below2 (below_a2 _ _ _) hb1); have x1 := HX.o.cell 1 rfl; have hg1 : w.heap.size + 1 < w1.heap.size := HR.o.lt; have hg0 : w.heap.size < w1.heap.size := HX.o.lt; clear hb1)
    clear x1
    go_loopg [17] n (fun g s wr => ∃ (k : Nat) (v : Value), k ≤ n ∧ n - k ≤ g ∧ s = .int .i64 k ∧ K (OwnL rT 37 (w1.heap.size + 1) wr ((x.fields.map fieldT).take k) v) ∧ K (Below w.heap.size w wr) ∧ K (Blk wr w.heap.size 24 [.string x.name, .slice A n c, .bool x.unique]) ∧ K (Blk wr (w.heap.size + 1) 37 zeroC) ∧ K (Blk wr w1.heap.size 37 [.int .i64 5, .int .i64 0, .string ⟨#[]⟩, .slice none 0 0, v]) ∧ w1.heap.size + 1 ≤ wr.heap.size)
    case atStart => exact ⟨0, _, Nat.zero_le _, Nat.le_refl _, rfl, ⟨by simpa using OwnL.nil _ _ _ _⟩, ⟨HB.o.alloc HB.o.size _⟩, ⟨HX.o.alloc _⟩, ⟨HR.o.alloc _⟩, ⟨Blk.new _ _ _⟩, by simp⟩
    case round =>
      clear HB HX HR
      obtain ⟨k, v, hk', hg, rfl, HO, HB, HX, HR, HY, hB3⟩ := hrel
      have hown : ∀ q, v.ownBlock = some q → w1.heap.size + 1 ≤ q ∧ q < wr.heap.size := fun q hq => HO.o.lt q hq
      have HOW := K.mk hown
      clear hown
      rcases Nat.lt_or_ge k n with hlt | hge
      · obtain ⟨b, o, f, fcs, rfl, hS, hb, hfx, hRf, hcf⟩ := HF.o.at k (by rw [HL.o]; exact hlt)
        obtain ⟨rfl, hfs⟩ := rF_open hRf
        obtain ⟨c0, c1⟩ := (hcf.below HB.o).two
        have hfs' : f.path.size ≤ 281474976710656 := hfs
        have hzb : b < wr.heap.size := Nat.lt_of_lt_of_le hb HB.o.size
        have y4 := HY.o.cell 4 rfl
        have hzy := HY.o.lt
        have HFX := K.mk hfx
        have HFS := K.mk hfs
        have hfp := (field_plain HQ.o f (List.mem_of_getElem? hfx)).2
        have hts := fieldT_size f
        have hmt : (x.fields.map fieldT).take (k + 1) = (x.fields.map fieldT).take k ++ [fieldT f] := take_snoc_eq _ _ _ (by rw [List.getElem?_map, hfx]; rfl)
        have HMT := K.mk hmt
        have HKL := K.mk (show ((x.fields.map fieldT).take k).length = k by rw [List.length_take, List.length_map, HL.o]; omega)
        clear hfx hRf hcf hfs hmt
        have HTS := K.mk hts
        clear hts
        have hd : f.down = true ∨ f.down = false := by cases f.down <;> simp
        rcases hd with hd | hd
        · have HFT := K.mk (fieldT_true hd)
          rw [hd] at c1
          clear hd
          go_wp2_with (at_builtin; refine wpList_append_L (w := wr.alloc (.cells #[.string f.path, .bool true] 65)) rT rfl _ _ 35 rfl (w1.heap.size + 1) 37 i0 (.agg #[.int .i64 0, .int .i64 0, .string ⟨#[]⟩, .slice none 0 0, .slice none 0 0]) 80 Tryd.underlying35 hi hz0 hz1 hz2 rfl (by decide) v ((x.fields.map fieldT).take k) rfl (HO.o.alloc _) (fieldT f) [.int .i64 4, .int .i64 0, .string (fieldT f), .slice none 0 0, .slice none 0 0] ⟨rfl, by have := HTS.o; unfold strMax; omega⟩ (by rw [World.size_alloc]; rfl) ?_ (below_a1 _ _) (by unfold maxLen; rw [HKL.o]; omega) (by rw [HKL.o]; omega) (by simp; omega) ?_)
          case _ =>
            intro j u hu
            rw [HFT.o] at hu
            exact (Blk.new (wr.alloc _) 37 _).cell j hu
          intro v' w3 hown' hgrow hnn hat
          have HO' := K.mk (hown'.cast HMT.o.symm)
          have hne : ∀ q, q ≤ w1.heap.size → some q ≠ v.ownBlock := fun q hq h => by have := (HOW.o q h.symm).1; omega
          have HY' := K.mk (((HY.o.alloc _).alloc _).grown hgrow (hne _ (Nat.le_refl _)))
          have HX' := K.mk (((HX.o.alloc _).alloc _).grown hgrow (hne _ (by omega)))
          have HR' := K.mk (((HR.o.alloc _).alloc _).grown hgrow (hne _ (by omega)))
          have hs3 := hgrow.size
          have HB' := K.mk ((((HB.o.alloc HB.o.size _).alloc (HB.o.alloc HB.o.size _).size _).grown hgrow (by simp; omega) (fun q hq => by have := (HOW.o q hq).1; omega)))
          have y4' := HY'.o.cell 4 rfl
          have f4' := HY'.o.frozen 4
          obtain ⟨ao, q', cp, rfl⟩ : ∃ ao q' cp, v' = .slice ao q' cp := by
            obtain ⟨a1, b1, c1⟩ := hown'.form
            exact ⟨_, _, _, c1⟩
          have hs4 : w1.heap.size + 1 ≤ w3.heap.size := by simp at hs3; omega
          clear hown' hgrow hnn hat hne y4 hs3
          go_wp2_with fail
          go_roundg (n - (k + 1))
          case measure => omega
          case rel => exact ⟨k + 1, .slice ao q' cp, by omega, Nat.le_refl _, by go_num, ⟨HO'.o.farNe flat_T ⟨w1.heap.size, 4, none⟩ _ (fun h => by have h2 : w1.heap.size + 1 ≤ w1.heap.size := (HO'.o.lt _ h).1; omega)⟩, ⟨HB'.o.setCell (p := ⟨w1.heap.size, 4, none⟩) (by show w.heap.size ≤ w1.heap.size; omega) _⟩, ⟨HX'.o.far (by show w.heap.size ≠ w1.heap.size; omega) _⟩, ⟨HR'.o.far (by show w.heap.size + 1 ≠ w1.heap.size; omega) _⟩, ⟨HY'.o.set 4 _⟩, by simpa using hs4⟩
        · have HFT := K.mk (fieldT_false hd)
          rw [hd] at c1
          clear hd
          go_wp2_with (at_builtin; refine wpList_append_L (w := wr.alloc (.cells #[.string f.path, .bool false] 65)) rT rfl _ _ 35 rfl (w1.heap.size + 1) 37 i0 (.agg #[.int .i64 0, .int .i64 0, .string ⟨#[]⟩, .slice none 0 0, .slice none 0 0]) 80 Tryd.underlying35 hi hz0 hz1 hz2 rfl (by decide) v ((x.fields.map fieldT).take k) rfl (HO.o.alloc _) (fieldT f) [.int .i64 4, .int .i64 0, .string (fieldT f), .slice none 0 0, .slice none 0 0] ⟨rfl, by have := HTS.o; unfold strMax; omega⟩ (by rw [World.size_alloc]; rfl) ?_ (below_a1 _ _) (by unfold maxLen; rw [HKL.o]; omega) (by rw [HKL.o]; omega) (by simp; omega) ?_)
          case _ =>
            intro j u hu
            rw [HFT.o] at hu
            exact (Blk.new (wr.alloc _) 37 _).cell j hu
          intro v' w3 hown' hgrow hnn hat
          have HO' := K.mk (hown'.cast HMT.o.symm)
          have hne : ∀ q, q ≤ w1.heap.size → some q ≠ v.ownBlock := fun q hq h => by have := (HOW.o q h.symm).1; omega
          have HY' := K.mk (((HY.o.alloc _).alloc _).grown hgrow (hne _ (Nat.le_refl _)))
          have HX' := K.mk (((HX.o.alloc _).alloc _).grown hgrow (hne _ (by omega)))
          have HR' := K.mk (((HR.o.alloc _).alloc _).grown hgrow (hne _ (by omega)))
          have hs3 := hgrow.size
          have HB' := K.mk ((((HB.o.alloc HB.o.size _).alloc (HB.o.alloc HB.o.size _).size _).grown hgrow (by simp; omega) (fun q hq => by have := (HOW.o q hq).1; omega)))
          have y4' := HY'.o.cell 4 rfl
          have f4' := HY'.o.frozen 4
          obtain ⟨ao, q', cp, rfl⟩ : ∃ ao q' cp, v' = .slice ao q' cp := by
            obtain ⟨a1, b1, c1⟩ := hown'.form
            exact ⟨_, _, _, c1⟩
          have hs4 : w1.heap.size + 1 ≤ w3.heap.size := by simp at hs3; omega
          clear hown' hgrow hnn hat hne y4 hs3
          go_wp2_with fail
          go_roundg (n - (k + 1))
          case measure => omega
          case rel => exact ⟨k + 1, .slice ao q' cp, by omega, Nat.le_refl _, by go_num, ⟨HO'.o.farNe flat_T ⟨w1.heap.size, 4, none⟩ _ (fun h => by have h2 : w1.heap.size + 1 ≤ w1.heap.size := (HO'.o.lt _ h).1; omega)⟩, ⟨HB'.o.setCell (p := ⟨w1.heap.size, 4, none⟩) (by show w.heap.size ≤ w1.heap.size; omega) _⟩, ⟨HX'.o.far (by show w.heap.size ≠ w1.heap.size; omega) _⟩, ⟨HR'.o.far (by show w.heap.size + 1 ≠ w1.heap.size; omega) _⟩, ⟨HY'.o.set 4 _⟩, by simpa using hs4⟩
      · have hkk : k = n := by omega
        have HO2 := K.mk (HO.o.cast (show (x.fields.map fieldT).take k = x.fields.map fieldT by rw [hkk, ← HL.o, ← List.length_map (f := fieldT), List.take_length]))
        clear HO
        subst hkk
        obtain ⟨vA, vc, rfl⟩ := HO2.o.form
        have hml : (x.fields.map fieldT).length = k := by rw [List.length_map, HL.o]
        rw [hml] at HO2 HY HOW
        obtain ⟨y0, y1, y2, y3, y4⟩ := HY.o.five
        obtain ⟨r0, r1, r2, r3, r4⟩ := HR.o.five
        obtain ⟨x0, x1, x2⟩ := HX.o.three
        have f0 := HR.o.frozen 0
        have f1 := HR.o.frozen 1
        have f2 := HR.o.frozen 2
        have f3 := HR.o.frozen 3
        have f4 := HR.o.frozen 4
        have hzr := HR.o.lt
        have hzx := HX.o.lt
        have hzy := HY.o.lt
        have HNE := K.mk (fun q (hq : q ≤ w1.heap.size ∨ wr.heap.size ≤ q) (h : (Value.slice vA k vc).ownBlock = some q) => show False by have := HOW.o q h; omega)
        clear hml
        have hu : x.unique = true ∨ x.unique = false := by cases x.unique <;> simp
        rcases hu with hu | hu
        all_goals
          have HU := K.mk hu
          rw [hu] at x2
          clear hu
          have rr0 := fun u0 u1 u2 u3 u4 o1 o2 o3 => (res_cells HR.o rfl u0 u1 u2 u3 u4 o1 o2 o3).cell 0 rfl
          have rr1 := fun u0 u1 u2 u3 u4 o1 o2 o3 => (res_cells HR.o rfl u0 u1 u2 u3 u4 o1 o2 o3).cell 1 rfl
          have rr2 := fun u0 u1 u2 u3 u4 o1 o2 o3 => (res_cells HR.o rfl u0 u1 u2 u3 u4 o1 o2 o3).cell 2 rfl
          have rr3 := fun u0 u1 u2 u3 u4 o1 o2 o3 => (res_cells HR.o rfl u0 u1 u2 u3 u4 o1 o2 o3).cell 3 rfl
          have rr4 := fun u0 u1 u2 u3 u4 o1 o2 o3 => (res_cells HR.o rfl u0 u1 u2 u3 u4 o1 o2 o3).cell 4 rfl
          have RR0 := K.mk rr0
          have RR1 := K.mk rr1
          have RR2 := K.mk rr2
          have RR3 := K.mk rr3
          have RR4 := K.mk rr4
          clear rr0 rr1 rr2 rr3 rr4
          go_wp2_with fail
          refine bodyPost_ret (v := .tuple #[.agg #[.int .i64 6, .int .i64 0, .string ⟨#[]⟩, .slice (some ⟨wr.heap.size + 1, 0, none⟩) 3 3, .slice (some ⟨wr.heap.size + 1 + 1, 0, none⟩) 3 3], .int .i64 0]) (by simp [results, Tryd.results18, go_sem, RR0.o, RR1.o, RR2.o, RR3.o, RR4.o]) rfl ?_
          refine ⟨(((below_res HB.o (by simp) _ _ _ _ _).alloc (by simp [World.setCell]; omega) _).alloc (by simp [World.setCell]; omega) _).alloc (by simp [World.setCell]; omega) _, ?_⟩
          rw [if_pos HQ.o]
          refine ⟨_, rfl, show_rv x _ (.slice vA k vc) (wr.heap.size + 1) (wr.heap.size + 1 + 1) HNS.o ?_ ((Blk.newAt (by simp [World.setCell]) _ _).alloc _) ?_⟩
          · exact ((((HO2.o.res flat_T (g := w.heap.size + 1) (fun h => HNE.o _ (.inl (by omega)) h) _ _ _ _ _).alloc _).alloc _).alloc _).slice (by rw [List.length_map, HL.o]; unfold strMax; omega)
          · rw [HU.o]
            exact Blk.newAt (by simp [World.setCell]) _ _
end Go.Proofs.YtgcbkecpplhknaaDoor
