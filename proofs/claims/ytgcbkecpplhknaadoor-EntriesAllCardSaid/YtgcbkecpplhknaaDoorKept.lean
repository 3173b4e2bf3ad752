/- Own words: what holds in every world from here on. -/
import Derived.Test.YtgcbkecpplhknaaDoorIx


import Derived.WalkKit
import Derived.Deep.QuietTactic
import Derived.BigQuiet
import Derived.Outline
import Derived.Deep.DeepMust
import Derived.Deep.CutBlock
import Derived.Deep.DeepCutAuto
import Derived.Deep.RegionWith
import Derived.WalkSpells
import Derived.WalkLawsBesides
import Derived.Test.YtgcbkecpplhknaaDoorMu
import Derived.Test.YtgcbkecpplhknaaDoorProg
set_option linter.unusedVariables false
set_option linter.unusedSimpArgs false
namespace Go.Proofs.YtgcbkecpplhknaaDoor
open Go.RowKit Go.Mu

/-- It holds from here on, whatever is laid on top. -/
def Kept (w : World) (Q : World → Prop) : Prop := ∀ W, Below w.heap.size w W → Q W
theorem Kept.step {w w' : World} {Q : World → Prop} (h : Kept w Q) (hb : Below w.heap.size w w') : Kept w' Q := fun W hW => h W (below2 hb hW)
theorem Kept.and {w : World} {Q R : World → Prop} (h : Kept w Q) (h2 : Kept w R) : Kept w fun W => Q W ∧ R W := fun W hW => ⟨h W hW, h2 W hW⟩
theorem Kept.now {w : World} {Q : World → Prop} (h : Kept w Q) : Q w := h w (Below.refl _ _)
theorem Kept.blk {w : World} {g : Nat} {t : TypeId} {cs : List Value} (h : Blk w g t cs) : Kept w fun W => Blk W g t cs ∧ g < W.heap.size := fun W hW => ⟨h.below hW h.lt, (h.below hW h.lt).lt⟩
theorem Kept.rv {w : World} {S : Blocks} {v : JV} {cs : List Value} (h : RV w S v cs) : Kept w fun W => RV W S v cs := fun W hW => rV.below h hW
theorem Kept.rix {w : World} {S : Blocks} {v : IX} {cs : List Value} (h : rIX.R w S v cs) : Kept w fun W => rIX.R W S v cs := fun W hW => rIX.below h hW
theorem Kept.base {w w' : World} (h : Below w.heap.size w w') : Kept w' fun W => Below w.heap.size w W := fun W hW => below2 h hW
end Go.Proofs.YtgcbkecpplhknaaDoor
