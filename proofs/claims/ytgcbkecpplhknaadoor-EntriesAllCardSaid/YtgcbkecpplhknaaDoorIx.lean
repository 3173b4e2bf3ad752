/- Own words: indexes (a name, fields of a path and a direction, unique or not); no program in sight. -/
import Derived.Test.YtgcbkecpplhknaaDoorOpen
import Derived.Test.YtgcbkecpplhknaaDoorOwn
set_option linter.unusedVariables false
namespace Go.Mu
open Go.RowKit

structure FD where
  path : ByteArray
  down : Bool
structure IX where
  name : ByteArray
  fields : List FD
  unique : Bool
def rF : Rep FD := (rStr.prod rBool).via (fun f => (f.path, f.down))
def rIX : Rep IX := (rStr.prod ((rSlice rF).prod rBool)).via (fun x => (x.name, x.fields, x.unique))
theorem rF_open {w : World} {S : Blocks} {f : FD} {cs : List Value} (h : rF.R w S f cs) : cs = [.string f.path, .bool f.down] ∧ f.path.size ≤ strMax := by
  obtain ⟨c, d, rfl, ⟨rfl, h1⟩, h2⟩ := h
  cases h2
  exact ⟨rfl, h1⟩
theorem rF_close {w : World} {S : Blocks} {f : FD} (h : f.path.size ≤ strMax) : rF.R w S f [.string f.path, .bool f.down] := ⟨[_], [_], rfl, ⟨rfl, h⟩, rfl⟩
theorem flat_F : Flat rF := fun _ _ _ _ _ _ ⟨c, d, he, h1, h2⟩ => ⟨c, d, he, h1, h2⟩
theorem rIX_open {w : World} {S : Blocks} {x : IX} {cs : List Value} (h : rIX.R w S x cs) :
    ∃ A c, cs = [.string x.name, .slice A x.fields.length c, .bool x.unique] ∧ SliceR (rF.R w S) 2 w S x.fields (.slice A x.fields.length c) ∧ x.name.size ≤ strMax := by
  obtain ⟨c, d, rfl, ⟨rfl, h1⟩, c2, d2, rfl, ⟨v, rfl, hs⟩, h2⟩ := h
  cases h2
  obtain ⟨A, c', rfl, hr⟩ := hs
  exact ⟨A, c', rfl, ⟨A, c', rfl, hr⟩, h1⟩
theorem rIX_close {w : World} {S : Blocks} {x : IX} {v : Value} (hs : SliceR (rF.R w S) 2 w S x.fields v) (h : x.name.size ≤ strMax) : rIX.R w S x [.string x.name, v, .bool x.unique] :=
  ⟨[_], [_, _], rfl, ⟨rfl, h⟩, [_], [_], rfl, ⟨_, rfl, hs⟩, rfl⟩

section
variable {H : Type} {enc : TypeId × Value → H} {P : Program} {w : World}
theorem opens_F {n : Nat} {tf ts tb : TypeId} {S : Blocks} {f0 f1 : Field} (ht : P.underlying tf = some (.struct #[f0, f1])) (hc : P.cellsOf tf = 2) (e0 : f0.type = ts ∧ f0.offset = 0) (e1 : f1.type = tb ∧ f1.offset = 1)
    (hs : P.underlying ts = some .string) (hb : P.underlying tb = some .bool) (c0 : P.cellsOf ts = 1) (c1 : P.cellsOf tb = 1) : Opens enc P w n tf (rF.R w S) := fun m hm cs x h hw => by
  obtain ⟨hlen, m', rfl, hf⟩ := opens_field ht h hw
  rw [hc] at hlen
  rcases cs with _ | ⟨a0, _ | ⟨a1, _ | ⟨a2, l⟩⟩⟩ <;> simp at hlen
  obtain ⟨y0, t0, w0⟩ := hf 0 f0 rfl
  obtain ⟨y1, t1, w1⟩ := hf 1 f1 rfl
  rw [e0.1] at t0 w0
  rw [e1.1] at t1 w1
  rw [e0.2, c0] at t0
  rw [e1.2, c1] at t1
  obtain ⟨s, hss, hsb⟩ := opens_str (n := m') (S := S) hs m' (Nat.le_refl _) _ _ t0 w0
  obtain ⟨b, hbb⟩ := opens_bool (n := m') hb m' (Nat.le_refl _) _ _ t1 w1
  simp at hss hbb
  subst hss hbb
  exact ⟨⟨s, b⟩, rF_close (f := ⟨s, b⟩) hsb⟩
theorem opens_IX {n : Nat} {tx tl tf ts tb : TypeId} {S : Blocks} (hS : ∀ b, b < w.heap.size → S b) {f0 f1 g0 g1 g2 : Field} (hx : P.underlying tx = some (.struct #[g0, g1, g2])) (hxc : P.cellsOf tx = 3)
    (d0 : g0.type = ts ∧ g0.offset = 0) (d1 : g1.type = tl ∧ g1.offset = 1) (d2 : g2.type = tb ∧ g2.offset = 2) (hl : P.underlying tl = some (.slice tf)) (hlc : P.cellsOf tl = 1) (bf : 1 ≤ P.bytesOf tf)
    (ht : P.underlying tf = some (.struct #[f0, f1])) (hc : P.cellsOf tf = 2) (e0 : f0.type = ts ∧ f0.offset = 0) (e1 : f1.type = tb ∧ f1.offset = 1)
    (hs : P.underlying ts = some .string) (hb : P.underlying tb = some .bool) (c0 : P.cellsOf ts = 1) (c1 : P.cellsOf tb = 1) : Opens enc P w n tx (rIX.R w S) := fun m hm cs x h hw => by
  obtain ⟨hlen, m', rfl, hf⟩ := opens_field hx h hw
  rw [hxc] at hlen
  rcases cs with _ | ⟨a0, _ | ⟨a1, _ | ⟨a2, _ | ⟨a3, l⟩⟩⟩⟩ <;> simp at hlen
  obtain ⟨y0, t0, w0⟩ := hf 0 g0 rfl
  obtain ⟨y1, t1, w1⟩ := hf 1 g1 rfl
  obtain ⟨y2, t2, w2⟩ := hf 2 g2 rfl
  rw [d0.1] at t0 w0
  rw [d1.1] at t1 w1
  rw [d2.1] at t2 w2
  rw [d0.2, c0] at t0
  rw [d1.2, hlc] at t1
  rw [d2.2, c1] at t2
  obtain ⟨s, hss, hsb⟩ := opens_str (n := m') (S := S) hs m' (Nat.le_refl _) _ _ t0 w0
  obtain ⟨fs, v, hv, hfs⟩ := opens_slice (S := S) hS hl bf hc (by omega) (opens_F (n := m') (S := S) ht hc e0 e1 hs hb c0 c1) m' (by omega) _ _ t1 w1
  obtain ⟨b, hbb⟩ := opens_bool (n := m') hb m' (Nat.le_refl _) _ _ t2 w2
  simp at hss hbb hv
  subst hss hbb hv
  exact ⟨⟨s, fs, b⟩, rIX_close (x := ⟨s, fs, b⟩) hfs hsb⟩
end
end Go.Mu
