/- Words for regions that draw their order: all that is done only reads or lays blocks. -/


import Derived.WalkKit
import Derived.Deep.QuietTactic
import Derived.BigQuiet
import Derived.Outline
import Derived.Deep.DeepMust
import Derived.Deep.CutBlock
import Derived.Deep.DeepCutAuto
import Derived.Deep.RegionWith
import Derived.WalkSpells
import Derived.WalkLawsBesides
import Derived.Test.YtgcbkecpplhknaaDoorMu
import Derived.Test.YtgcbkecpplhknaaDoorProg
set_option linter.unusedVariables false
set_option linter.unusedSimpArgs false
namespace Go.Proofs.YtgcbkecpplhknaaDoor
open Go.RowKit Go.Mu

/-- A world that has only memory more than w. -/
structure BW (w : World) where
  wd : World
  hb : Below w.heap.size w wd
instance (w : World) : Inhabited (BW w) := ⟨⟨w, Below.refl _ _⟩⟩

theorem wp_region_below {P : Program} {id : Nat} {Q : Exit → Act → World → Prop} {a : Act} {w : World} {l : List Oper} (hm : P.follows .mixedOrders = true) (hB : Region.lexB .any l.toArray = true)
    (h : wpQuiet P l.toArray (fun w' => ∃ p : BW w, w' = p.wd) (fun a' => ∀ w', (∃ p : BW w, w' = p.wd) → Q .normal a' w') l a) : (Code.region id l.toArray true).wp P Q a w :=
  wp_region_quiet (C := fun w' => ∃ p : BW w, w' = p.wd) hm hB ⟨⟨w.drew, (Below.refl _ _).drew⟩, rfl⟩ (by simpa using h)

theorem bw_call {P : Program} {f : FuncId} {args : Array Value} {w : World} {v : Value} (p : BW w)
    (h : ∀ W, Below w.heap.size w W → Calls P f args W fun e w' => e = .returned v ∧ Below W.heap.size W w') : Calls P f args p.wd fun e w'' => e = .returned v ∧ ∃ q : BW w, w'' = q.wd :=
  (h p.wd p.hb).mono fun _ w' ⟨he, hb⟩ => ⟨he, ⟨w', below2 p.hb hb⟩, rfl⟩

end Go.Proofs.YtgcbkecpplhknaaDoor
