/- Walks: text, formed, Formed of the program. -/
import Derived.Test.YtgcbkecpplhknaaDoorJFew
import Derived.Test.YtgcbkecpplhknaaDoorShelf


import Derived.WalkKit
import Derived.Deep.QuietTactic
import Derived.BigQuiet
import Derived.Outline
import Derived.Deep.DeepMust
import Derived.Deep.CutBlock
import Derived.Deep.DeepCutAuto
import Derived.Deep.RegionWith
import Derived.WalkSpells
import Derived.WalkLawsBesides
import Derived.Test.YtgcbkecpplhknaaDoorMu
import Derived.Test.YtgcbkecpplhknaaDoorProg
set_option linter.unusedVariables false
set_option linter.unusedSimpArgs false
namespace Go.Proofs.YtgcbkecpplhknaaDoor
open Go.RowKit Go.Mu

/-- The library's two tables of UTF-8 are as its text lays them. -/
def Tabs (w : World) : Prop := Lib.Utf8Tabs 0 1 w
theorem Tabs.below {w w' : World} (h : Tabs w) (hb : Below w.heap.size w w') : Tabs w' := Utf8Tabs_below h hb

set_option maxHeartbeats 1000000 in
theorem json_text_calls (s : ByteArray) (w : World) (hT : Tabs w) :
    Calls Tryd.prog 79 #[.string s] w fun e w' => e = .returned (.bool (textS s)) ∧ Below w.heap.size w w' := by
  by_cases h : s.size ≤ 60
  · have hz : (s.size : Int) ≤ 60 := by omega
    have hc := fun W hW => Tryd.utf8_ValidString s W (by omega) (hT.below hW)
    have HC := K.mk hc
    have hs : textS s = Lib.validD s.data.toList := by simp [textS, h]
    have HS := K.mk hs
    clear hc hs
    go_enter Tryd.func79, Tryd.ntmps79
    go_wp2_with (go_at_call 64; go_must (refine (HC.o _ (Below.refl _ _)).mono ?_); rintro e w' ⟨rfl, hb'⟩)
    go_ret
    exact ⟨by rw [HS.o]; rfl, hb'⟩
  · have hz : ¬ (s.size : Int) ≤ 60 := by omega
    have hs : K (textS s = false) := ⟨by simp [textS, h]⟩
    go_enter Tryd.func79, Tryd.ntmps79
    go_wp2_with fail
    go_ret
    exact ⟨by rw [hs.o]; rfl, Below.refl _ _⟩

/-- What is asked of a function value: at each of these elements it answers p, and only makes memory of its own. -/
def Pred_V (P : Program) (g : Nat) (lb : Array Value) (S : Blocks) (w : World) (l : List JV) (p : JV → Bool) : Prop :=
  ∀ x ∈ l, ∀ cs W, RV w S x cs → Below w.heap.size w W → Calls P g (#[.agg cs.toArray] ++ lb) W fun e w' => e = .returned (.bool (p x)) ∧ Below W.heap.size W w'

set_option maxHeartbeats 2000000 in
theorem indexFunc_V (g : Nat) (lb : Array Value) (eg : ∀ args w, (callFunc g args).run Tryd.prog w = .ok (.enter g args) w) (l : List JV) (A : Option Addr) (c : Nat) (S : Blocks) (w : World) (p : JV → Bool)
    (hl : SliceR (RV w S) 5 w S l (.slice A l.length c)) (hp : Pred_V Tryd.prog g lb S w l p) :
    Calls Tryd.prog 115 #[.slice A l.length c, .func (.func g) #[] lb] w fun e w' => e = .returned (.int .i64 (idxS p l)) ∧ Below w.heap.size w w' := by
  have hlen := hl.len_le
  have HL := K.mk hl
  have HP := K.mk hp
  clear hl hp
  go_enter Tryd.func115, Tryd.ntmps115
  go_wp2_with fail
  go_loopg [8] l.length (fun gg s8 wr => ∃ k : Nat, k ≤ l.length ∧ l.length - k ≤ gg ∧ s8 = .int .i64 k ∧ K ((l.take k).all (fun x => !p x) = true) ∧ K (Below w.heap.size w wr))
  case atStart => exact ⟨0, Nat.zero_le _, Nat.le_refl _, rfl, ⟨by simp⟩, ⟨Below.refl _ _⟩⟩
  case round =>
    obtain ⟨k, hk', hg, rfl, HD, HB⟩ := hrel
    by_cases hlt : k < l.length
    · obtain ⟨b, o, x, xcs, rfl, hS, hb, hx, hRx, hcx⟩ := HL.o.at k hlt
      have hcall := HP.o x (List.mem_of_getElem? hx) xcs wr hRx HB.o
      have HX := K.mk hx
      obtain ⟨xAn, xcn, xA, xc, rfl, _⟩ := hRx.wide; obtain ⟨c0, c1, c2, c3, c4⟩ := (hcx.below HB.o).five
      clear hx hcx
      cases hq : p x with
      | true =>
        rw [hq] at hcall
        have HC := K.mk hcall
        have HQ := K.mk hq
        clear hcall hq
        go_wp2_with (go_at_fn g; go_must (refine HC.o.mono ?_); rintro e w' ⟨rfl, hb'⟩)
        go_ret
        exact ⟨ret_int (idxS_hit p l k x HX.o HQ.o HD.o).symm, below2 HB.o hb'⟩
      | false =>
        rw [hq] at hcall
        have HC := K.mk hcall
        have HQ := K.mk hq
        clear hcall hq
        go_wp2_with (go_at_fn g; go_must (refine HC.o.mono ?_); rintro e w' ⟨rfl, hb'⟩)
        go_roundg (l.length - (k + 1))
        case measure => omega
        case rel => exact ⟨k + 1, by omega, Nat.le_refl _, by go_num, ⟨by rw [all_take_snoc _ _ _ _ HX.o, HD.o, HQ.o]; rfl⟩, ⟨below2 HB.o hb'⟩⟩
    · have hkk : k = l.length := by omega
      subst hkk
      rw [List.take_length] at HD
      go_wp2_with fail
      go_ret
      exact ⟨ret_int (idxS_miss p l HD.o).symm, HB.o⟩

set_option maxHeartbeats 1000000 in
theorem containsFunc_V (g : Nat) (lb : Array Value) (eg : ∀ args w, (callFunc g args).run Tryd.prog w = .ok (.enter g args) w) (l : List JV) (A : Option Addr) (c : Nat) (S : Blocks) (w : World) (p : JV → Bool)
    (hl : SliceR (RV w S) 5 w S l (.slice A l.length c)) (hp : Pred_V Tryd.prog g lb S w l p) :
    Calls Tryd.prog 80 #[.slice A l.length c, .func (.func g) #[] lb] w fun e w' => e = .returned (.bool (l.any p)) ∧ Below w.heap.size w w' := by
  have HC := K.mk (indexFunc_V g lb eg l A c S w p hl hp)
  have HA := K.mk (idxS_any p l)
  clear hl hp
  generalize idxS p l = q at HC HA
  go_enter Tryd.func80, Tryd.ntmps80
  go_wp2_with (go_at_call 115; go_must (refine HC.o.mono ?_); rintro e w' ⟨rfl, hb'⟩)
  go_ret
  exact ⟨ret_bool HA.o, hb'⟩

theorem formS_small (m : Nat) (v : JV) (hb : baseS v = true) (ht : textS v.text = true) (h : v.kind < 5) : formS (m + 1) v = (decide (v.items.length = 0) && decide (v.names.length = 0)) := by
  rw [formS, shape_small v hb ht h]
  by_cases hi : v.items.length = 0
  · have : v.items = [] := List.eq_nil_of_length_eq_zero hi
    simp [this]
  · simp [hi]
theorem formS_big (m : Nat) (v : JV) (hb : baseS v = true) (ht : textS v.text = true) (h : ¬ v.kind < 5) : formS (m + 1) v = (countS v && namesS v.names && v.items.all (formS m)) := by
  rw [formS, shape_big v hb ht h]
theorem formS_zero_bad (m : Nat) (v : JV) (h : baseS v = false) : formS (m + 1) v = false := by simp [formS, shapeS, h]
theorem formS_text_bad (m : Nat) (v : JV) (h : textS v.text = false) : formS (m + 1) v = false := by simp [formS, shapeS, h]

/-- The closure within formed: of what is one less deep. -/
theorem formed1_calls (m : Nat) (hm : m < 100) (x : JV) (cs : List Value) (S : Blocks) (g : Nat) (W : World) (h : RV W S x cs) (hT : Tabs W) (hg : W.cell? ⟨g, 0, none⟩ = some (.int .i64 (m + 1 : Nat)))
    (ih : ∀ (v : JV) (cs : List Value) (S : Blocks) (w : World), RV w S v cs → Tabs w → Calls Tryd.prog 52 #[.agg cs.toArray, .int .i64 (m : Nat)] w fun e w' => e = .returned (.bool (formS m v)) ∧ Below w.heap.size w w') :
    Calls Tryd.prog 81 #[.agg cs.toArray, .pointer (some ⟨g, 0, none⟩)] W fun e w' => e = .returned (.bool (!formS m x)) ∧ Below W.heap.size W w' := by
  have hc := fun W' (hW : Below W.heap.size W W') => ih x cs S W' (rV.below h hW) (hT.below hW)
  have HC := K.mk hc
  have hlt := World.block_lt_of_cell? W ⟨g, 0, none⟩ hg
  obtain ⟨An, cn, Ai, ci, rfl, hnm, hit, hk, hn, ht⟩ := h.wide
  have hilen := hit.len_le
  have hnlen := hnm.len_le
  clear hc ih hT hnm hit
  go_enter Tryd.func81, Tryd.ntmps81
  go_wp2_with (go_at_call 52; go_must (refine (HC.o _ (below_a1 _ _)).mono ?_); rintro e w' ⟨rfl, hb'⟩)
  go_ret
  exact ⟨rfl, below2 (below_a1 _ _) hb'⟩

end Go.Proofs.YtgcbkecpplhknaaDoor
