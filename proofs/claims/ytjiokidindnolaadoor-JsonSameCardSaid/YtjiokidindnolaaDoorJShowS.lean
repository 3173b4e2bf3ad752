/- Walks: show and Print of the reference. -/
import Derived.Test.YtjiokidindnolaaDoorJShowQ
import Derived.Test.YtjiokidindnolaaDoorJRefC


import Derived.WalkKit
import Derived.Deep.QuietTactic
import Derived.BigQuiet
import Derived.Outline
import Derived.Deep.DeepMust
import Derived.Deep.CutBlock
import Derived.Deep.DeepCutAuto
import Derived.Deep.RegionWith
import Derived.WalkSpells
import Derived.WalkLawsBesides
import Derived.Test.YtjiokidindnolaaDoorMu
import Derived.Test.YtjiokidindnolaaDoorProg
set_option linter.unusedVariables false
set_option linter.unusedSimpArgs false
namespace Go.Proofs.YtjiokidindnolaaDoor
open Go.RowKit Go.Mu

theorem capS_small (m : Nat) (hm : m ≤ 5) : capS m ≤ 4000000000 := by
  have h : ∀ i : Fin 6, capS i.val ≤ 4000000000 := by decide
  exact h ⟨m, by omega⟩
theorem l44 : (⟨#[44]⟩ : ByteArray) = bs [44] := rfl
theorem l58 : (⟨#[58]⟩ : ByteArray) = bs [58] := rfl
theorem show_list (m : Nat) (v : JV) (h : v.kind = 5 ∨ v.kind = 6) : showS (m + 1) v = (if v.kind = 6 then 123 else 91) :: (bodyS v (showS m) v.items.length ++ [if v.kind = 6 then 125 else 93]) := by
  unfold showS
  rcases h with h | h <;> rw [h] <;> rfl

/-- What the walks on lists ask of lengths. -/
theorem list_sizes (m : Nat) (hm : m ≤ 5) (v : JV) (cs : List Value) (S : Blocks) (w : World) (h : RV w S v cs) (hf : formS (m + 1) v = true) (h5 : ¬ v.kind < 5) :
    (∀ k, k ≤ v.items.length → (bodyS v (showS m) k).length ≤ 1000000000000) ∧ ∀ x ∈ v.items, (showS m x).length ≤ 1000000000000 := by
  obtain ⟨An, cn, Ai, ci, rfl, hnm, hit, hk, hn, ht⟩ := h.wide
  obtain ⟨hb, htx, hi, h2⟩ := form_parts hf
  have hc := capS_small m hm
  refine ⟨fun k hk => ?_, fun x hx => ?_⟩
  · have h1 := (show_len (m + 1) v _ S w h hf).2 k hk h5
    have h3 := (h2 h5).1
    have e : k * (capS m + 364) ≤ 24 * (capS m + 364) := Nat.mul_le_mul_right _ (by omega)
    have h1' : (bodyS v (showS m) k).length ≤ k * (capS m + 364) := h1
    omega
  · obtain ⟨k, hk, he⟩ := List.mem_iff_getElem.1 hx
    obtain ⟨b, o, y, ycs, _, _, _, hy, hRy, _⟩ := hit.at k hk
    have hxy : x = y := by rw [List.getElem?_eq_getElem hk, he] at hy; exact Option.some.inj hy
    subst hxy
    have h1 := (show_len m x ycs S w hRy (hi x hx)).1
    omega


set_option maxRecDepth 100000 in
set_option maxHeartbeats 8000000 in
theorem show_leaf (m : Nat) (v : JV) (cs : List Value) (S : Blocks) (w : World) (h : RV w S v cs) (hf : formS (m + 1) v = true) (h5 : v.kind < 5) :
    Calls Tryd.prog 24 #[.agg cs.toArray] w fun e w' => e = .returned (.string (bs (showS (m + 1) v))) ∧ Below w.heap.size w w' := by
  obtain ⟨hb, htx, _, _⟩ := form_parts hf
  have hts : v.text.size ≤ 60 := by simp only [textS, Bool.and_eq_true, decide_eq_true_eq] at htx; exact htx.1
  obtain ⟨An, cn, Ai, ci, rfl, hnm, hit, hk, hn, ht⟩ := h.wide
  have hilen := hit.len_le
  have hnlen := hnm.len_le
  have hk0 : 0 ≤ v.kind := by simp only [baseS, Bool.and_eq_true, decide_eq_true_eq] at hb; omega
  have HD := K.mk (Digits_calls (v.num.natAbs + 1) v.num (by omega) hn.1 hn.2)
  have HQ := K.mk (Quoted_calls v.text (by omega))
  have hcase : v.kind = 0 ∨ v.kind = 1 ∨ v.kind = 2 ∨ v.kind = 3 ∨ v.kind = 4 := by omega
  have hs : ∀ k : Int, v.kind = k → bs (showS (m + 1) v) = bs (if k = 0 then [110, 117, 108, 108] else if k = 1 then [102, 97, 108, 115, 101] else if k = 2 then [116, 114, 117, 101] else if k = 3 then Lib.itoa v.num else if k = 4 then quotedS v.text else []) := fun k hk => by
    unfold showS; rw [hk]
    have h5' : k < 5 := by omega
    repeat' split
    all_goals first | rfl | omega
  have HS := K.mk hs
  clear hnm hit h hb htx hf hs h5 hk0
  rcases hcase with hk | hk | hk | hk | hk
  all_goals
    have HE := K.mk (HS.o _ hk)
    rw [hk]
    clear hk HS
    go_enter Tryd.func24, Tryd.ntmps24
    go_wp2_with (first | (go_at_call 36; go_must (refine (HD.o _).mono ?_); rintro e w1 ⟨rfl, hb1⟩) | (go_at_call 37; go_must (refine (HQ.o _).mono ?_); rintro e w1 ⟨rfl, hb1⟩))
    go_ret
    first | exact ⟨by rw [HE.o]; rfl, below_a1 _ _⟩ | exact ⟨by rw [HE.o]; rfl, below2 (below_a1 _ _) hb1⟩


set_option maxRecDepth 100000 in
set_option maxHeartbeats 8000000 in
theorem show_arr (m : Nat) (hm : m ≤ 5) (v : JV) (cs : List Value) (S : Blocks) (w : World) (h : RV w S v cs) (hf : formS (m + 1) v = true) (hk' : v.kind = 5)
    (IH : K (∀ x ∈ v.items, ∀ (cs : List Value) (S : Blocks) (w : World), RV w S x cs → Calls Tryd.prog 24 #[.agg cs.toArray] w fun e w' => e = .returned (.string (bs (showS m x))) ∧ Below w.heap.size w w')) :
    Calls Tryd.prog 24 #[.agg cs.toArray] w fun e w' => e = .returned (.string (bs (showS (m + 1) v))) ∧ Below w.heap.size w w' := by
  obtain ⟨HLB, HLX⟩ := list_sizes m hm v cs S w h hf (by omega)
  obtain ⟨_, _, hi, h2⟩ := form_parts hf
  obtain ⟨h24, hnn, hns⟩ := h2 (by omega)
  obtain ⟨An, cn, Ai, ci, rfl, hnm, hit, hk, hn, ht⟩ := h.wide
  have hilen := hit.len_le
  have hnlen := hnm.len_le
  have HSL := K.mk (show_list m v (by omega))
  have HR := K.mk hit
  have HN := K.mk hnm
  have HB1 := K.mk HLB
  have HX1 := K.mk HLX
  have HI := K.mk hi
  have HNS := K.mk hns
  have HK := K.mk hk'
  rw [hk']
  clear hnm hit h hf hi hns hk' HLB HLX h2 hnn
  go_enter Tryd.func24, Tryd.ntmps24
  go_wp2_with fail
  go_loopg [3, 4] v.items.length (fun g s3 s4 wr => ∃ (k : Nat) (t : ByteArray), k ≤ v.items.length ∧ v.items.length - k ≤ g ∧ s4 = .int .i64 k ∧ s3 = .string t ∧ K (t = bs (bodyS v (showS m) k)) ∧ t.size ≤ 1000000000000 ∧ K (Below w.heap.size w wr) ∧ K (Blk wr w.heap.size 25 [.int .i64 5, .int .i64 v.num, .string v.text, .slice An v.names.length cn, .slice Ai v.items.length ci]))
  case atStart => exact ⟨0, _, Nat.zero_le _, Nat.le_refl _, rfl, rfl, ⟨rfl⟩, by decide, ⟨below_a1 _ _⟩, ⟨Blk.new _ _ _⟩⟩
  case round =>
    obtain ⟨k, t, hk', hg, rfl, rfl, HD, ht', HB, HV⟩ := hrel
    obtain ⟨v0, v1, v2, v3, v4⟩ := HV.o.five
    have hsz := HV.o.lt
    rcases Nat.lt_or_ge k v.items.length with hlt | hge
    · have hlt' : (k : Int) < (v.items.length : Int) := by omega
      obtain ⟨b, o, x, xcs, rfl, hS, hbb, hx, hRx, hcx⟩ := HR.o.at k hlt
      have hmem := List.mem_of_getElem? hx
      have HCX := K.mk (fun W (hW : Below w.heap.size w W) => IH.o x hmem xcs S W (rV.below hRx hW))
      have hux : (bs (showS m x)).size ≤ 1000000000000 := by rw [bs_size]; exact HX1.o x hmem
      have HX := K.mk hx
      obtain ⟨xAn, xcn, xA, xc, rfl, _⟩ := hRx.wide
      obtain ⟨c0, c1, c2, c3, c4⟩ := (hcx.below HB.o).five
      clear hx hcx hmem
      rcases Nat.eq_zero_or_pos k with hk0 | hk0
      · subst hk0
        simp only [Nat.zero_mul, Nat.add_zero] at c0 c1 c2 c3 c4
        go_wp2_with (go_at_call 24; go_must (refine (HCX.o _ HB.o).mono ?_); rintro e w2 ⟨rfl, hb2⟩)
        have he : t ++ bs (showS m x) = bs (bodyS v (showS m) 1) := by
          rw [HD.o, bs_append, bodyS_succ v _ 0 x HX.o]; simp [headS, HK.o]
        go_roundg (v.items.length - 1)
        case measure => omega
        case rel => exact ⟨1, _, by omega, Nat.le_refl _, by go_num, rfl, ⟨he⟩, by rw [he, bs_size]; exact HB1.o _ (by omega), ⟨below2 HB.o hb2⟩, ⟨HV.o.below hb2 hsz⟩⟩
      · have hpos : (0 : Int) < (k : Int) := by omega
        go_wp2_with (go_at_call 24; go_must (refine (HCX.o _ HB.o).mono ?_); rintro e w2 ⟨rfl, hb2⟩)
        have he : t ++ ⟨#[44]⟩ ++ bs (showS m x) = bs (bodyS v (showS m) (k + 1)) := by
          rw [HD.o, l44, bs_append, bs_append, bodyS_succ v _ k x HX.o]; simp [headS, HK.o, hk0]
        go_roundg (v.items.length - (k + 1))
        case measure => omega
        case rel => exact ⟨k + 1, _, by omega, Nat.le_refl _, by go_num, rfl, ⟨he⟩, by rw [he, bs_size]; exact HB1.o _ (by omega), ⟨below2 HB.o hb2⟩, ⟨HV.o.below hb2 hsz⟩⟩
    · have hge' : ¬ (k : Int) < (v.items.length : Int) := by omega
      have hkk : v.items.length = k := by omega
      have hq : (⟨#[91]⟩ : ByteArray) ++ t ++ ⟨#[93]⟩ = bs (showS (m + 1) v) := by
        rw [HSL.o, HD.o, show (⟨#[91]⟩ : ByteArray) = bs [91] from rfl, show (⟨#[93]⟩ : ByteArray) = bs [93] from rfl, bs_append, bs_append, HK.o, hkk]; rfl
      have HQ := K.mk hq
      clear hq
      go_wp2_with fail
      go_ret
      exact ⟨by rw [← HQ.o]; rfl, HB.o⟩

set_option maxRecDepth 100000 in
set_option maxHeartbeats 8000000 in
theorem show_obj (m : Nat) (hm : m ≤ 5) (v : JV) (cs : List Value) (S : Blocks) (w : World) (h : RV w S v cs) (hf : formS (m + 1) v = true) (hk' : v.kind = 6)
    (IH : K (∀ x ∈ v.items, ∀ (cs : List Value) (S : Blocks) (w : World), RV w S x cs → Calls Tryd.prog 24 #[.agg cs.toArray] w fun e w' => e = .returned (.string (bs (showS m x))) ∧ Below w.heap.size w w')) :
    Calls Tryd.prog 24 #[.agg cs.toArray] w fun e w' => e = .returned (.string (bs (showS (m + 1) v))) ∧ Below w.heap.size w w' := by
  obtain ⟨HLB, HLX⟩ := list_sizes m hm v cs S w h hf (by omega)
  obtain ⟨_, _, hi, h2⟩ := form_parts hf
  obtain ⟨h24, hnn, hns⟩ := h2 (by omega)
  obtain ⟨An, cn, Ai, ci, rfl, hnm, hit, hk, hn, ht⟩ := h.wide
  have hilen := hit.len_le
  have hnlen := hnm.len_le
  have HSL := K.mk (show_list m v (by omega))
  have HR := K.mk hit
  have HN := K.mk hnm
  have HB1 := K.mk HLB
  have HX1 := K.mk HLX
  have HI := K.mk hi
  have HNS := K.mk hns
  have HK := K.mk hk'
  rw [hk']
  rw [if_pos hk'] at hnn
  have HNN := K.mk hnn
  clear hnm hit h hf hi hns hk' HLB HLX h2 hnn
  go_enter Tryd.func24, Tryd.ntmps24
  go_wp2_with fail
  go_loopg [3, 4] v.items.length (fun g s3 s4 wr => ∃ (k : Nat) (t : ByteArray), k ≤ v.items.length ∧ v.items.length - k ≤ g ∧ s4 = .int .i64 k ∧ s3 = .string t ∧ K (t = bs (bodyS v (showS m) k)) ∧ t.size ≤ 1000000000000 ∧ K (Below w.heap.size w wr) ∧ K (Blk wr w.heap.size 25 [.int .i64 6, .int .i64 v.num, .string v.text, .slice An v.names.length cn, .slice Ai v.items.length ci]))
  case atStart => exact ⟨0, _, Nat.zero_le _, Nat.le_refl _, rfl, rfl, ⟨rfl⟩, by decide, ⟨below_a1 _ _⟩, ⟨Blk.new _ _ _⟩⟩
  case round =>
    obtain ⟨k, t, hk', hg, rfl, rfl, HD, ht', HB, HV⟩ := hrel
    obtain ⟨v0, v1, v2, v3, v4⟩ := HV.o.five
    have hsz := HV.o.lt
    rcases Nat.lt_or_ge k v.items.length with hlt | hge
    · have hlt' : (k : Int) < (v.items.length : Int) := by omega
      obtain ⟨nb, no, nm, ncs, rfl, _, _, hnx, ⟨rfl, _⟩, hnc⟩ := HN.o.at1 k (by rw [HNN.o]; exact hlt)
      have n0 := (hnc.below HB.o).one
      have hlt2 : (k : Int) < (v.names.length : Int) := by rw [HNN.o]; omega
      have hgn : v.names.getD k ByteArray.empty = nm := by rw [List.getD_eq_getElem?_getD, hnx]; rfl
      have hnsz : nm.size ≤ 60 := by rw [← hgn]; exact namesS_text HNS.o k (by rw [HNN.o]; exact hlt)
      have hqsz : (bs (quotedS nm)).size ≤ 1000 := by rw [bs_size]; have := quotedS_len nm; omega
      have HGN := K.mk hgn
      have HQ := K.mk (Quoted_calls nm (by omega))
      clear hnx hgn hnc
      obtain ⟨b, o, x, xcs, rfl, hS, hbb, hx, hRx, hcx⟩ := HR.o.at k hlt
      have hmem := List.mem_of_getElem? hx
      have HCX := K.mk (fun W (hW : Below w.heap.size w W) => IH.o x hmem xcs S W (rV.below hRx hW))
      have hux : (bs (showS m x)).size ≤ 1000000000000 := by rw [bs_size]; exact HX1.o x hmem
      have HX := K.mk hx
      obtain ⟨xAn, xcn, xA, xc, rfl, _⟩ := hRx.wide
      clear hx
      rcases Nat.eq_zero_or_pos k with hk0 | hk0
      · subst hk0
        simp only [Nat.add_zero] at n0
        go_wp2_with (first | (go_at_call 37; go_must (refine (HQ.o _).mono ?_); rintro e w1 ⟨rfl, hb1⟩; have HB1' := K.mk (below2 HB.o hb1); obtain ⟨c0, c1, c2, c3, c4⟩ := (hcx.below HB1'.o).five; simp only [Nat.zero_mul, Nat.add_zero] at c0 c1 c2 c3 c4; have HV1 := K.mk (HV.o.below hb1 hsz); obtain ⟨v0, v1, v2, v3, v4⟩ := HV1.o.five; clear hcx hb1) | (go_at_call 24; go_must (refine (HCX.o _ HB1'.o).mono ?_); rintro e w2 ⟨rfl, hb2⟩))
        have he : t ++ (bs (quotedS nm) ++ ⟨#[58]⟩) ++ bs (showS m x) = bs (bodyS v (showS m) 1) := by
          rw [HD.o, l58, bs_append, bs_append, bs_append, bodyS_succ v _ 0 x HX.o]; unfold headS; rw [HGN.o]; simp [HK.o]
        go_roundg (v.items.length - 1)
        case measure => omega
        case rel => exact ⟨1, _, by omega, Nat.le_refl _, by go_num, rfl, ⟨he⟩, by rw [he, bs_size]; exact HB1.o _ (by omega), ⟨below2 HB1'.o hb2⟩, ⟨HV1.o.below hb2 HV1.o.lt⟩⟩
      · have hpos : (0 : Int) < (k : Int) := by omega
        go_wp2_with (first | (go_at_call 37; go_must (refine (HQ.o _).mono ?_); rintro e w1 ⟨rfl, hb1⟩; have HB1' := K.mk (below2 HB.o hb1); obtain ⟨c0, c1, c2, c3, c4⟩ := (hcx.below HB1'.o).five; have HV1 := K.mk (HV.o.below hb1 hsz); obtain ⟨v0, v1, v2, v3, v4⟩ := HV1.o.five; clear hcx hb1) | (go_at_call 24; go_must (refine (HCX.o _ HB1'.o).mono ?_); rintro e w2 ⟨rfl, hb2⟩))
        have he : t ++ ⟨#[44]⟩ ++ (bs (quotedS nm) ++ ⟨#[58]⟩) ++ bs (showS m x) = bs (bodyS v (showS m) (k + 1)) := by
          rw [HD.o, l44, l58, bs_append, bs_append, bs_append, bs_append, bodyS_succ v _ k x HX.o]; unfold headS; rw [HGN.o]; simp [HK.o, hk0]
        go_roundg (v.items.length - (k + 1))
        case measure => omega
        case rel => exact ⟨k + 1, _, by omega, Nat.le_refl _, by go_num, rfl, ⟨he⟩, by rw [he, bs_size]; exact HB1.o _ (by omega), ⟨below2 HB1'.o hb2⟩, ⟨HV1.o.below hb2 HV1.o.lt⟩⟩
    · have hge' : ¬ (k : Int) < (v.items.length : Int) := by omega
      have hkk : v.items.length = k := by omega
      have hq : (⟨#[123]⟩ : ByteArray) ++ t ++ ⟨#[125]⟩ = bs (showS (m + 1) v) := by
        rw [HSL.o, HD.o, show (⟨#[123]⟩ : ByteArray) = bs [123] from rfl, show (⟨#[125]⟩ : ByteArray) = bs [125] from rfl, bs_append, bs_append, HK.o, hkk]; rfl
      have HQ := K.mk hq
      clear hq
      go_wp2_with fail
      go_ret
      exact ⟨by rw [← HQ.o]; rfl, HB.o⟩

theorem show_calls : ∀ (m : Nat), m ≤ 6 → ∀ (v : JV) (cs : List Value) (S : Blocks) (w : World), RV w S v cs → formS m v = true →
    Calls Tryd.prog 24 #[.agg cs.toArray] w fun e w' => e = .returned (.string (bs (showS m v))) ∧ Below w.heap.size w w' := by
  intro m
  induction m with
  | zero => intro _ v cs S w h hf; simp [formS] at hf
  | succ m ih =>
    intro hm v cs S w h hf
    obtain ⟨hb, _, hi, _⟩ := form_parts hf
    have IH := K.mk (fun x (hx : x ∈ v.items) cs S w h => ih (by omega) x cs S w h (hi x hx))
    by_cases h5 : v.kind < 5
    · exact show_leaf m v cs S w h hf h5
    · have hk : v.kind = 5 ∨ v.kind = 6 := by simp only [baseS, Bool.and_eq_true, decide_eq_true_eq] at hb; omega
      rcases hk with hk | hk
      · exact show_arr m (by omega) v cs S w h hf hk IH
      · exact show_obj m (by omega) v cs S w h hf hk IH

/-- What Print answers: the text, and its number. -/
def printS (v : JV) : ByteArray × Int := if formS 6 v then (bs (showS 6 v), 0) else (ByteArray.empty, 2)

set_option maxHeartbeats 4000000 in
theorem ref_Print_calls (v : JV) (cs : List Value) (S : Blocks) (w : World) (h : RV w S v cs) :
    Calls Tryd.prog 14 #[.agg cs.toArray] w fun e w' => e = .returned (.tuple #[.string (printS v).1, .int .i64 (printS v).2]) ∧ Below w.heap.size w w' := by
  have HF := K.mk (fun w' (hb : Below w.heap.size w w') => ref_Formed_calls v cs S w' (rV.below h hb))
  have HR := K.mk h
  obtain ⟨An, cn, Ai, ci, rfl, hnm, hit, hk, hn, ht⟩ := h.wide
  have hilen := hit.len_le
  have hnlen := hnm.len_le
  clear hnm hit h
  cases hq : formS 6 v
  all_goals
    simp only [hq] at HF
    have HP := K.mk (show printS v = _ by unfold printS; rw [hq])
  · clear hq
    go_enter Tryd.func14, Tryd.ntmps14
    go_wp2_with (go_at_call 10; go_must (refine (HF.o _ (below_a1 _ _)).mono ?_); rintro e w1 ⟨rfl, hb1⟩; have HB := K.mk (below2 (below_a1 _ _) hb1); clear hb1)
    go_ret2
    exact ⟨by rw [HP.o]; rfl, HB.o⟩
  · have HS := K.mk (fun w' (hb : Below w.heap.size w w') => show_calls 6 (Nat.le_refl _) v _ S w' (rV.below HR.o hb) hq)
    clear hq
    go_enter Tryd.func14, Tryd.ntmps14
    go_wp2_with (first | (go_at_call 10; go_must (refine (HF.o _ (below_a1 _ _)).mono ?_); rintro e w1 ⟨rfl, hb1⟩; have HV := K.mk ((Blk.new _ _ _).below hb1 (by simp)); obtain ⟨v0, v1, v2, v3, v4⟩ := HV.o.five; have HB := K.mk (below2 (below_a1 _ _) hb1); clear hb1) | (go_at_call 24; go_must (refine (HS.o _ HB.o).mono ?_); rintro e w2 ⟨rfl, hb2⟩))
    go_ret2
    exact ⟨by rw [HP.o]; rfl, below2 HB.o hb2⟩
end Go.Proofs.YtjiokidindnolaaDoor
