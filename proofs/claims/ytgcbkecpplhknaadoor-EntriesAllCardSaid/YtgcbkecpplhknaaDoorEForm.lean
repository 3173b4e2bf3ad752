/- Walks: Formed of indexes, of the program. -/
import Derived.Test.YtgcbkecpplhknaaDoorESteps
import Derived.Test.YtgcbkecpplhknaaDoorEName
import Derived.Test.YtgcbkecpplhknaaDoorJSameW


import Derived.WalkKit
import Derived.Deep.QuietTactic
import Derived.BigQuiet
import Derived.Outline
import Derived.Deep.DeepMust
import Derived.Deep.CutBlock
import Derived.Deep.DeepCutAuto
import Derived.Deep.RegionWith
import Derived.WalkSpells
import Derived.WalkLawsBesides
import Derived.Test.YtgcbkecpplhknaaDoorMu
import Derived.Test.YtgcbkecpplhknaaDoorProg
set_option linter.unusedVariables false
set_option linter.unusedSimpArgs false
namespace Go.Proofs.YtgcbkecpplhknaaDoor
open Go.RowKit Go.Mu

theorem beq_decide (a b : ByteArray) : (a.toList == b.toList) = decide (a = b) := by
  by_cases h : a = b
  · rw [h]; simp
  · rw [toList_ne h]; simp [h]
/-- The library's tables, and what is below the heap's end. -/
theorem fieldS_some {l : List FD} {i : Nat} {f : FD} (h : l[i]? = some f) : fieldS l i = ((stepsS f.path).isSome && decide (f.path.size ≤ 24) && plainS f.path && !(l.take i).any (fun g => decide (g.path = f.path))) := by
  unfold fieldS; rw [h]

theorem steps_none (s : ByteArray) (hs : s.size ≤ strMax) (w : World) (hT : Tabs w) (h : stepsS s = none) :
    Calls Tryd.prog 40 #[.string s] w fun e w' => e = .returned (.tuple #[.slice none 0 0, .int .i64 2]) ∧ Below w.heap.size w w' :=
  (path_Steps_calls s hs w hT).mono fun e w' ⟨hb, hq⟩ => by rw [h] at hq; exact ⟨hq, hb⟩
theorem steps_some (s : ByteArray) (hs : s.size ≤ strMax) (w : World) (hT : Tabs w) (l : List ByteArray) (h : stepsS s = some l) :
    Calls Tryd.prog 40 #[.string s] w fun e w' => ∃ A c, e = .returned (.tuple #[.slice A l.length c, .int .i64 0]) ∧ SliceR (rStr.R w' (fun _ => True)) 1 w' (fun _ => True) l (.slice A l.length c) ∧ Below w.heap.size w w' ∧ l.length ≤ 4 :=
  (path_Steps_calls s hs w hT).mono fun e w' ⟨hb, hq⟩ => by
    rw [h] at hq
    obtain ⟨v, he, hown, hl⟩ := hq
    obtain ⟨A, c, rfl⟩ := hown.form
    exact ⟨A, c, he, hown.slice (by unfold strMax; omega), hb, hl⟩
theorem rsteps_none (s : ByteArray) (hs : s.size ≤ strMax) (w : World) (hT : Tabs w) (h : stepsS s = none) :
    Calls Tryd.prog 44 #[.string s] w fun e w' => e = .returned (.tuple #[.slice none 0 0, .int .i64 2]) ∧ Below w.heap.size w w' :=
  (ref_Steps_calls s hs w hT).mono fun e w' ⟨hb, hq⟩ => by rw [h] at hq; exact ⟨hq, hb⟩
theorem rsteps_some (s : ByteArray) (hs : s.size ≤ strMax) (w : World) (hT : Tabs w) (l : List ByteArray) (h : stepsS s = some l) :
    Calls Tryd.prog 44 #[.string s] w fun e w' => ∃ A c, e = .returned (.tuple #[.slice A l.length c, .int .i64 0]) ∧ SliceR (rStr.R w' (fun _ => True)) 1 w' (fun _ => True) l (.slice A l.length c) ∧ Below w.heap.size w w' ∧ l.length ≤ 4 :=
  (ref_Steps_calls s hs w hT).mono fun e w' ⟨hb, hq⟩ => by
    rw [h] at hq
    obtain ⟨v, he, hown, hl⟩ := hq
    obtain ⟨A, c, rfl⟩ := hown.form
    exact ⟨A, c, he, hown.slice (by unfold strMax; omega), hb, hl⟩

/-- What is asked of a function value: at each of these elements it answers p, and only makes memory of its own. -/
def Pred_F (P : Program) (g : Nat) (lb : Array Value) (S : Blocks) (w : World) (l : List FD) (p : FD → Bool) : Prop :=
  ∀ x ∈ l, ∀ cs W, rF.R w S x cs → Below w.heap.size w W → Calls P g (#[.agg cs.toArray] ++ lb) W fun e w' => e = .returned (.bool (p x)) ∧ Below W.heap.size W w'

set_option maxHeartbeats 2000000 in
theorem indexFunc_F (g : Nat) (lb : Array Value) (eg : ∀ args w, (callFunc g args).run Tryd.prog w = .ok (.enter g args) w) (l : List FD) (A : Option Addr) (c : Nat) (S : Blocks) (w : World) (p : FD → Bool)
    (hl : SliceR (rF.R w S) 2 w S l (.slice A l.length c)) (hp : Pred_F Tryd.prog g lb S w l p) :
    Calls Tryd.prog 67 #[.slice A l.length c, .func (.func g) #[] lb] w fun e w' => e = .returned (.int .i64 (idxS p l)) ∧ Below w.heap.size w w' := by
  have hlen := hl.len_le
  have HL := K.mk hl
  have HP := K.mk hp
  clear hl hp
  go_enter Tryd.func67, Tryd.ntmps67
  go_wp2_with fail
  go_loopg [8] l.length (fun gg s8 wr => ∃ k : Nat, k ≤ l.length ∧ l.length - k ≤ gg ∧ s8 = .int .i64 k ∧ K ((l.take k).all (fun x => !p x) = true) ∧ K (Below w.heap.size w wr))
  case atStart => exact ⟨0, Nat.zero_le _, Nat.le_refl _, rfl, ⟨by simp⟩, ⟨Below.refl _ _⟩⟩
  case round =>
    obtain ⟨k, hk', hg, rfl, HD, HB⟩ := hrel
    by_cases hlt : k < l.length
    · obtain ⟨b, o, x, xcs, rfl, hS, hb, hx, hRx, hcx⟩ := HL.o.at k hlt
      have hcall := HP.o x (List.mem_of_getElem? hx) xcs wr hRx HB.o
      have HX := K.mk hx
      obtain ⟨rfl, hxs⟩ := rF_open hRx; obtain ⟨c0, c1⟩ := (hcx.below HB.o).two
      clear hx hcx
      cases hq : p x with
      | true =>
        rw [hq] at hcall
        have HC := K.mk hcall
        have HQ := K.mk hq
        clear hcall hq
        go_wp2_with (go_at_fn g; go_must (refine HC.o.mono ?_); rintro e w' ⟨rfl, hb'⟩)
        go_ret
        exact ⟨ret_int (idxS_hit p l k x HX.o HQ.o HD.o).symm, below2 HB.o hb'⟩
      | false =>
        rw [hq] at hcall
        have HC := K.mk hcall
        have HQ := K.mk hq
        clear hcall hq
        go_wp2_with (go_at_fn g; go_must (refine HC.o.mono ?_); rintro e w' ⟨rfl, hb'⟩)
        go_roundg (l.length - (k + 1))
        case measure => omega
        case rel => exact ⟨k + 1, by omega, Nat.le_refl _, by go_num, ⟨by rw [all_take_snoc _ _ _ _ HX.o, HD.o, HQ.o]; rfl⟩, ⟨below2 HB.o hb'⟩⟩
    · have hkk : k = l.length := by omega
      subst hkk
      rw [List.take_length] at HD
      go_wp2_with fail
      go_ret
      exact ⟨ret_int (idxS_miss p l HD.o).symm, HB.o⟩

set_option maxHeartbeats 1000000 in
theorem containsFunc_F (g : Nat) (lb : Array Value) (eg : ∀ args w, (callFunc g args).run Tryd.prog w = .ok (.enter g args) w) (l : List FD) (A : Option Addr) (c : Nat) (S : Blocks) (w : World) (p : FD → Bool)
    (hl : SliceR (rF.R w S) 2 w S l (.slice A l.length c)) (hp : Pred_F Tryd.prog g lb S w l p) :
    Calls Tryd.prog 42 #[.slice A l.length c, .func (.func g) #[] lb] w fun e w' => e = .returned (.bool (l.any p)) ∧ Below w.heap.size w w' := by
  have HC := K.mk (indexFunc_F g lb eg l A c S w p hl hp)
  have HA := K.mk (idxS_any p l)
  clear hl hp
  generalize idxS p l = q at HC HA
  go_enter Tryd.func42, Tryd.ntmps42
  go_wp2_with (go_at_call 67; go_must (refine HC.o.mono ?_); rintro e w' ⟨rfl, hb'⟩)
  go_ret
  exact ⟨ret_bool HA.o, hb'⟩

set_option maxHeartbeats 1000000 in
theorem formedF1_calls (x f : FD) (g : Nat) (W : World) (h0 : W.cell? ⟨g, 0, none⟩ = some (.string f.path)) :
    Calls Tryd.prog 43 #[.agg #[.string x.path, .bool x.down], .pointer (some ⟨g, 0, none⟩)] W fun e w' => e = .returned (.bool (decide (x.path = f.path))) ∧ Below W.heap.size W w' := by
  have hlt := World.block_lt_of_cell? W ⟨g, 0, none⟩ h0
  have HB := K.mk (beq_decide x.path f.path)
  go_enter Tryd.func43, Tryd.ntmps43
  go_wp2_with fail
  go_ret
  exact ⟨ret_bool HB.o, below_a1 _ _⟩

/-- What is asked of a field, in the program's order. -/
theorem field_cases (l : List FD) (i : Nat) (f : FD) (h : l[i]? = some f) :
    (stepsS f.path = none ∧ fieldS l i = false) ∨ (∃ q, stepsS f.path = some q ∧ (24 : Int) < (f.path.size : Int) ∧ fieldS l i = false) ∨
    (∃ q, stepsS f.path = some q ∧ ¬ (24 : Int) < (f.path.size : Int) ∧ plainS f.path = false ∧ fieldS l i = false) ∨
    (∃ q, stepsS f.path = some q ∧ ¬ (24 : Int) < (f.path.size : Int) ∧ plainS f.path = true ∧ (l.take i).any (fun g => decide (g.path = f.path)) = true ∧ fieldS l i = false) ∨
    (∃ q, stepsS f.path = some q ∧ ¬ (24 : Int) < (f.path.size : Int) ∧ plainS f.path = true ∧ (l.take i).any (fun g => decide (g.path = f.path)) = false ∧ fieldS l i = true) := by
  rw [fieldS_some h]
  cases h1 : stepsS f.path with
  | none => left; exact ⟨rfl, rfl⟩
  | some q =>
    by_cases h2 : f.path.size ≤ 24
    · have h2' : ¬ (24 : Int) < (f.path.size : Int) := by omega
      cases h3 : plainS f.path
      · right; right; left; exact ⟨q, rfl, h2', rfl, by simp⟩
      · cases h4 : (l.take i).any (fun g => decide (g.path = f.path))
        · right; right; right; right; exact ⟨q, rfl, h2', rfl, rfl, by simp [h2]⟩
        · right; right; right; left; exact ⟨q, rfl, h2', rfl, rfl, by simp⟩
    · right; left; exact ⟨q, rfl, by omega, by simp [h2]⟩

theorem formX_eq (x : IX) : formX x = (nameS x.name && decide (1 ≤ x.fields.length) && decide (x.fields.length ≤ 3) && fieldsS x.fields) := rfl
theorem formX_no {x : IX} (h : fieldsS x.fields = false) : formX x = false := by unfold formX; rw [h]; simp
theorem fields_no {l : List FD} {i : Nat} (hi : i < l.length) (h : fieldS l i = false) : fieldsS l = false := allTo_false i hi h

set_option maxRecDepth 100000 in
set_option maxHeartbeats 8000000 in
theorem Formed_calls (x : IX) (cs : List Value) (S : Blocks) (w : World) (h : rIX.R w S x cs) (hT : Tabs w) :
    Calls Tryd.prog 12 #[.agg cs.toArray] w fun e w' => e = .returned (.bool (formX x)) ∧ Below w.heap.size w w' := by
  obtain ⟨A, c, rfl, hf, hns⟩ := rIX_open h
  have hlen := hf.len_le
  have hcap := hf.cap.2.1
  have HT := K.mk hT
  have HF := K.mk hf
  have HN := K.mk (fun W => Name_calls x.name W)
  have HX := K.mk (formX_eq x)
  clear hf h hT
  cases hnm : nameS x.name
  · rw [hnm] at HN HX
    clear hnm
    go_enter Tryd.func12, Tryd.ntmps12
    go_wp2_with (go_at_call 15; go_must (refine (HN.o _).mono ?_); rintro e w1 ⟨rfl, hb1⟩)
    go_ret
    exact ⟨ret_bool (by rw [HX.o]; rfl), below2 (below_a1 _ _) hb1⟩
  rw [hnm] at HN HX
  clear hnm
  by_cases h1 : x.fields.length < 1
  · have h1' : (x.fields.length : Int) < 1 := by omega
    have HQ := K.mk (show formX x = false by rw [HX.o]; simp; omega)
    clear HX h1
    go_enter Tryd.func12, Tryd.ntmps12
    go_wp2_with (go_at_call 15; go_must (refine (HN.o _).mono ?_); rintro e w1 ⟨rfl, hb1⟩; have HV := K.mk ((Blk.new _ _ _).below hb1 (by simp)); obtain ⟨v0, v1, v2⟩ := HV.o.three; have HB := K.mk (below2 (below_a1 _ _) hb1); clear hb1)
    go_ret
    exact ⟨ret_bool HQ.o.symm, HB.o⟩
  by_cases h3 : 3 < x.fields.length
  · have h1' : ¬ (x.fields.length : Int) < 1 := by omega
    have h3' : (3 : Int) < (x.fields.length : Int) := by omega
    have HQ := K.mk (show formX x = false by rw [HX.o]; simp; omega)
    clear HX h1 h3
    go_enter Tryd.func12, Tryd.ntmps12
    go_wp2_with (go_at_call 15; go_must (refine (HN.o _).mono ?_); rintro e w1 ⟨rfl, hb1⟩; have HV := K.mk ((Blk.new _ _ _).below hb1 (by simp)); obtain ⟨v0, v1, v2⟩ := HV.o.three; have HB := K.mk (below2 (below_a1 _ _) hb1); clear hb1)
    go_ret
    exact ⟨ret_bool HQ.o.symm, HB.o⟩
  have h1' : ¬ (x.fields.length : Int) < 1 := by omega
  have h3' : ¬ (3 : Int) < (x.fields.length : Int) := by omega
  have HQ := K.mk (show formX x = fieldsS x.fields by rw [HX.o]; simp; omega)
  generalize hn : x.fields.length = n at *
  have HL := K.mk hn
  clear HX h1 h3 hn
  go_enter Tryd.func12, Tryd.ntmps12
  go_wp2_with (go_at_call 15; go_must (refine (HN.o _).mono ?_); rintro e w1 ⟨rfl, hb1⟩; have HV := K.mk ((Blk.new _ _ _).below hb1 (by simp)); obtain ⟨v0, v1, v2⟩ := HV.o.three; have HB := K.mk (below2 (below_a1 _ _) hb1); clear hb1)
  clear v0 v1 v2
  go_loopg [26] n (fun g s wr => ∃ k : Nat, k ≤ n ∧ n - k ≤ g ∧ s = .int .i64 k ∧ K (allTo k (fieldS x.fields) = true) ∧ K (Below w.heap.size w wr) ∧ K (Blk wr w.heap.size 24 [.string x.name, .slice A n c, .bool x.unique]))
  case atStart => exact ⟨0, Nat.zero_le _, Nat.le_refl _, rfl, ⟨rfl⟩, HB, HV⟩
  case round =>
    clear HV HB
    obtain ⟨k, hk', hg, rfl, HD, HB, HV⟩ := hrel
    rcases Nat.lt_or_ge k n with hlt | hge
    · obtain ⟨b, o, f, fcs, rfl, hS, hb, hfx, hRf, hcf⟩ := HF.o.at k (by rw [HL.o]; exact hlt)
      obtain ⟨rfl, hfs⟩ := rF_open hRf
      obtain ⟨c0, c1⟩ := (hcf.below HB.o).two
      have v1 := HV.o.cell 1 rfl
      have hz1 : b < wr.heap.size := Nat.lt_of_lt_of_le hb HB.o.size
      have hz2 := HV.o.lt
      have hkc : (k : Int) ≤ (c : Int) := by omega
      have hcase := field_cases x.fields k f hfx
      have HTW := K.mk (fun W (hW : Below wr.heap.size wr W) => HT.o.below (below2 HB.o hW))
      have HFX := K.mk (fields_no (i := k) (l := x.fields) (by rw [HL.o]; exact hlt))
      have HP := K.mk (fun W => plain_calls f.path W)
      have hfs' : f.path.size ≤ 281474976710656 := hfs
      have HCF := K.mk (fun W (hW : Below wr.heap.size wr W) (h0 : W.cell? ⟨wr.heap.size, 0, none⟩ = some (.string f.path)) => containsFunc_F 43 #[.pointer (some ⟨wr.heap.size, 0, none⟩)] (enters_of Tryd.func43 (by kernel_rfl) rfl) (x.fields.take k) (some ⟨b, o, none⟩) c S W (fun g => decide (g.path = f.path))
        (by rw [show (x.fields.take k).length = k by rw [List.length_take, HL.o]; omega]; exact (HF.o.take k (by rw [HL.o]; omega)).imp (fun b hs hlt => ⟨(below2 HB.o hW).block b hlt, hs⟩) (fun y _ cs hr => rF.below hr (below2 HB.o hW)))
        (fun y hy cs W' hR hW' => by
          obtain ⟨rfl, _⟩ := rF_open hR
          exact formedF1_calls y f wr.heap.size W' ((hW'.cell (p := ⟨wr.heap.size, 0, none⟩) (World.block_lt_of_cell? W _ h0)).trans h0)))
      rw [show (x.fields.take k).length = k by rw [List.length_take, HL.o]; omega] at HCF
      clear hfx hRf hcf hfs
      rcases hcase with ⟨q1, hq⟩ | ⟨l, q1, q2, hq⟩ | ⟨l, q1, q2, q3, hq⟩ | ⟨l, q1, q2, q3, q4, hq⟩ | ⟨l, q1, q2, q3, q4, hq⟩
      · have HQ1 := K.mk q1
        have HNO := K.mk (HFX.o hq)
        clear q1 hq HFX HCF
        go_wp2_with (go_at_call 40; go_must (refine (steps_none f.path hfs' _ (HTW.o _ (below_a1 _ _)) HQ1.o).mono ?_); rintro e w2 ⟨rfl, hb2⟩)
        go_ret
        exact ⟨ret_bool (by rw [HQ.o, HNO.o]), below2 (HB.o.alloc HB.o.size _) hb2⟩
      · have HQ1 := K.mk q1
        have HNO := K.mk (HFX.o hq)
        clear q1 hq HFX HCF
        go_wp2_with (go_at_call 40; go_must (refine (steps_some f.path hfs' _ (HTW.o _ (below_a1 _ _)) l HQ1.o).mono ?_); rintro e w2 ⟨A2, C2, rfl, hs2, hb2, hl2⟩; have HV2 := K.mk ((Blk.new _ _ _).below hb2 (by simp)); have f0 := HV2.o.cell 0 rfl; have HB2 := K.mk hb2; clear hb2 hs2)
        go_ret
        exact ⟨ret_bool (by rw [HQ.o, HNO.o]), below2 (HB.o.alloc HB.o.size _) HB2.o⟩
      · have HQ1 := K.mk q1
        have HNO := K.mk (HFX.o hq)
        rw [q3] at HP
        clear q1 q3 hq HFX HCF
        go_wp2_with (first
          | (go_at_call 40; go_must (refine (steps_some f.path hfs' _ (HTW.o _ (below_a1 _ _)) l HQ1.o).mono ?_); rintro e w2 ⟨A2, C2, rfl, hs2, hb2, hl2⟩; have HV2 := K.mk ((Blk.new _ _ _).below hb2 (by simp)); have f0 := HV2.o.cell 0 rfl; have HB2 := K.mk hb2; clear hb2 hs2)
          | (go_at_call 41; go_must (refine (HP.o _).mono ?_); rintro e w3 ⟨rfl, hb3⟩; have HB3 := K.mk (below2 HB2.o hb3); clear hb3))
        go_ret
        exact ⟨ret_bool (by rw [HQ.o, HNO.o]), below2 (HB.o.alloc HB.o.size _) HB3.o⟩
      · have HQ1 := K.mk q1
        have HNO := K.mk (HFX.o hq)
        rw [q3] at HP
        rw [q4] at HCF
        clear q1 q3 q4 hq HFX
        go_wp2_with (first
          | (go_at_call 40; go_must (refine (steps_some f.path hfs' _ (HTW.o _ (below_a1 _ _)) l HQ1.o).mono ?_); rintro e w2 ⟨A2, C2, rfl, hs2, hb2, hl2⟩; have HV2 := K.mk ((Blk.new _ _ _).below hb2 (by simp)); have f0 := HV2.o.cell 0 rfl; have HB2 := K.mk hb2; clear hb2 hs2)
          | (go_at_call 41; go_must (refine (HP.o _).mono ?_); rintro e w3 ⟨rfl, hb3⟩; have HB3 := K.mk (below2 HB2.o hb3); have HB4 := K.mk (below2 (below_a1 _ _) HB3.o); have u1 := (HV.o.below HB4.o HV.o.lt).cell 1 rfl; have g0 := (HV2.o.below hb3 HV2.o.lt).cell 0 rfl; have HG0 := K.mk g0; clear hb3)
          | (go_at_call 42; go_must (refine (HCF.o _ HB4.o HG0.o).mono ?_); rintro e w5 ⟨rfl, hb5⟩))
        go_ret
        exact ⟨ret_bool (by rw [HQ.o, HNO.o]), below2 (below2 HB.o HB4.o) hb5⟩
      · have HQ1 := K.mk q1
        have HYES := K.mk hq
        rw [q3] at HP
        rw [q4] at HCF
        clear q1 q3 q4 hq HFX
        go_wp2_with (first
          | (go_at_call 40; go_must (refine (steps_some f.path hfs' _ (HTW.o _ (below_a1 _ _)) l HQ1.o).mono ?_); rintro e w2 ⟨A2, C2, rfl, hs2, hb2, hl2⟩; have HV2 := K.mk ((Blk.new _ _ _).below hb2 (by simp)); have f0 := HV2.o.cell 0 rfl; have HB2 := K.mk hb2; clear hb2 hs2)
          | (go_at_call 41; go_must (refine (HP.o _).mono ?_); rintro e w3 ⟨rfl, hb3⟩; have HB3 := K.mk (below2 HB2.o hb3); have HB4 := K.mk (below2 (below_a1 _ _) HB3.o); have u1 := (HV.o.below HB4.o HV.o.lt).cell 1 rfl; have g0 := (HV2.o.below hb3 HV2.o.lt).cell 0 rfl; have HG0 := K.mk g0; clear hb3)
          | (go_at_call 42; go_must (refine (HCF.o _ HB4.o HG0.o).mono ?_); rintro e w5 ⟨rfl, hb5⟩))
        go_roundg (n - (k + 1))
        case measure => omega
        case rel => exact ⟨k + 1, by omega, Nat.le_refl _, by go_num, ⟨by rw [allTo_succ, HD.o, HYES.o]; rfl⟩, ⟨below2 (below2 HB.o HB4.o) hb5⟩, ⟨HV.o.below (below2 HB4.o hb5) HV.o.lt⟩⟩
    · have hkk : k = n := by omega
      subst hkk
      have HYES := K.mk (show fieldsS x.fields = true by unfold fieldsS; rw [HL.o]; exact HD.o)
      go_wp2_with fail
      go_ret
      exact ⟨ret_bool (by rw [HQ.o, HYES.o]), HB.o⟩
end Go.Proofs.YtgcbkecpplhknaaDoor
