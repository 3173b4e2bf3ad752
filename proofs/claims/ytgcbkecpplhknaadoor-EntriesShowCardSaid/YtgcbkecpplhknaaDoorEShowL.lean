/- Walks: the law EntriesShow. -/
import Derived.Test.YtgcbkecpplhknaaDoorEParseR
import Derived.Test.YtgcbkecpplhknaaDoorJFew
import Derived.Test.YtgcbkecpplhknaaDoorJFormC


import Derived.WalkKit
import Derived.Deep.QuietTactic
import Derived.BigQuiet
import Derived.Outline
import Derived.Deep.DeepMust
import Derived.Deep.CutBlock
import Derived.Deep.DeepCutAuto
import Derived.Deep.RegionWith
import Derived.WalkSpells
import Derived.WalkLawsBesides
import Derived.Test.YtgcbkecpplhknaaDoorMu
import Derived.Test.YtgcbkecpplhknaaDoorProg
set_option linter.unusedVariables false
set_option linter.unusedSimpArgs false
namespace Go.Proofs.YtgcbkecpplhknaaDoor
open Go.RowKit Go.Mu
attribute [local go_sem ↓] Go.wp_at_zero Go.wp_at_succ

theorem nodes_pos (m : Nat) (v : JV) : 1 ≤ nodesS (m + 1) v := by
  show 1 ≤ min 1001 (1 + sumN (nodesS m) v.items)
  omega
theorem sumN_len (f : JV → Nat) : ∀ l : List JV, (∀ x ∈ l, 1 ≤ f x) → l.length ≤ sumN f l
  | [], _ => Nat.zero_le _
  | x :: l, h => by
    have h1 := sumN_len f l fun y hy => h y (List.mem_cons_of_mem _ hy)
    have h2 := h x (List.mem_cons_self ..)
    show l.length + 1 ≤ f x + sumN f l
    omega
theorem few_items {v : JV} (h : fewS v = true) : (v.items.getD 0 (leafK 0)).items.length ≤ 1000 := by
  rw [fewS_eq] at h
  simp at h
  have h1 : nodesS 40 v ≤ 300 := h.1.1.1.1
  have h2 : min 1001 (1 + sumN (nodesS 39) v.items) ≤ 300 := h1
  match hv : v.items with
  | [] => exact Nat.zero_le _
  | a :: l =>
    rw [hv] at h2
    have h3 : sumN (nodesS 39) (a :: l) = nodesS 39 a + sumN (nodesS 39) l := rfl
    have h4 : nodesS 39 a = min 1001 (1 + sumN (nodesS 38) a.items) := rfl
    have h5 := sumN_len (nodesS 38) a.items fun x _ => nodes_pos 37 x
    show a.items.length ≤ 1000
    omega

def zIX : IX := ⟨ByteArray.empty, [], false⟩
theorem zix_rep (w : World) (S : Blocks) : rIX.R w S zIX [.string ⟨#[]⟩, .slice none 0 0, .bool false] :=
  rIX_close (x := zIX) ⟨none, 0, rfl, Nat.le_refl _, capOk_nil, fun h => absurd rfl h⟩ (by decide)
theorem showQ_open {x : IX} {w w' : World} {e : Ending} (h : ShowQ x w e w') (sv : JV) (ec : Int) (h1 : formX x = true → sv = showX x ∧ ec = 0) (h2 : formX x = false → sv = leafK 0 ∧ ec = 2) :
    ∃ cs', e = .returned (.tuple #[.agg cs'.toArray, .int .i64 ec]) ∧ RV w' (fun _ => True) sv cs' ∧ Below w.heap.size w w' := by
  obtain ⟨hb, h⟩ := h
  cases hq : formX x
  · rw [if_neg (by rw [hq]; simp)] at h
    obtain ⟨rfl, rfl⟩ := h2 hq
    exact ⟨_, h, rv_leafK _ _ 0 (by omega) (by omega), hb⟩
  · rw [if_pos hq] at h
    obtain ⟨rfl, rfl⟩ := h1 hq
    obtain ⟨cs, h3, h4⟩ := h
    exact ⟨cs, h3, h4, hb⟩
theorem parseQ_open {v : JV} {w w' : World} {e : Ending} (h : ParseQ v w e w') (xv : IX) (gc : Int) (h1 : ∀ x, parseX v = some x → xv = x ∧ gc = 0) (h2 : parseX v = none → xv = zIX ∧ gc = 2) :
    ∃ cs', e = .returned (.tuple #[.agg cs'.toArray, .int .i64 gc]) ∧ rIX.R w' (fun _ => True) xv cs' ∧ Below w.heap.size w w' := by
  obtain ⟨hb, h⟩ := h
  cases hq : parseX v with
  | none =>
    rw [hq] at h
    obtain ⟨rfl, rfl⟩ := h2 hq
    exact ⟨_, h, zix_rep _ _, hb⟩
  | some y =>
    rw [hq] at h
    obtain ⟨rfl, rfl⟩ := h1 y hq
    obtain ⟨cs, h3, h4⟩ := h
    exact ⟨cs, h3, h4, hb⟩
theorem parse_form {v : JV} {x : IX} (h : parseX v = some x) : formX x = true := by
  unfold parseX parseWith at h
  split at h
  · rename_i h2
    injection h with h
    rw [← h]; exact h2.2.1
  · cases h

/-- It holds from here on, whatever is laid on top. -/
def Kept (w : World) (Q : World → Prop) : Prop := ∀ W, Below w.heap.size w W → Q W
theorem Kept.step {w w' : World} {Q : World → Prop} (h : Kept w Q) (hb : Below w.heap.size w w') : Kept w' Q := fun W hW => h W (below2 hb hW)
theorem Kept.and {w : World} {Q R : World → Prop} (h : Kept w Q) (h2 : Kept w R) : Kept w fun W => Q W ∧ R W := fun W hW => ⟨h W hW, h2 W hW⟩
theorem Kept.now {w : World} {Q : World → Prop} (h : Kept w Q) : Q w := h w (Below.refl _ _)
theorem Kept.blk {w : World} {g : Nat} {t : TypeId} {cs : List Value} (h : Blk w g t cs) : Kept w fun W => Blk W g t cs ∧ g < W.heap.size := fun W hW => ⟨h.below hW h.lt, (h.below hW h.lt).lt⟩
theorem Kept.rv {w : World} {S : Blocks} {v : JV} {cs : List Value} (h : RV w S v cs) : Kept w fun W => RV W S v cs := fun W hW => rV.below h hW
theorem Kept.rix {w : World} {S : Blocks} {v : IX} {cs : List Value} (h : rIX.R w S v cs) : Kept w fun W => rIX.R W S v cs := fun W hW => rIX.below h hW
theorem Kept.base {w w' : World} (h : Below w.heap.size w w') : Kept w' fun W => Below w.heap.size w W := fun W hW => below2 h hW
end Go.Proofs.YtgcbkecpplhknaaDoor
