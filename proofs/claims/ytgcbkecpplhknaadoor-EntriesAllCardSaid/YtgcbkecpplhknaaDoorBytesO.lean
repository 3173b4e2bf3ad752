/- Own words: from an argument's reading to where bytes, a plan lie; no program in sight. -/
import Derived.Test.YtgcbkecpplhknaaDoorOpen
import Derived.Test.YtgcbkecpplhknaaDoorBytesW
set_option linter.unusedVariables false
namespace Go.Mu
open Go.RowKit
section
variable {H : Type} {enc : TypeId × Value → H} {P : Program} {w : World}
theorem opens_u8 {n : Nat} {t : TypeId} {S : Blocks} (ht : P.underlying t = some (.int .u8)) : Opens enc P w n t (rByte.R w S) := fun m hm cs x h hw => by
  obtain ⟨a, rfl, hb⟩ := opens_int (n := n) ht m hm cs x h hw
  have h0 : (0 : Int) ≤ a := by have := hb.1; rwa [show IntKind.u8.min = 0 from rfl] at this
  have h1 : a ≤ 255 := by have := hb.2; rwa [show IntKind.u8.max = 255 from rfl] at this
  refine ⟨UInt8.ofNat a.toNat, ?_⟩
  show [Value.int .u8 a] = [.int .u8 ((UInt8.ofNat a.toNat).toNat : Int)]
  have e : (UInt8.ofNat a.toNat).toNat = a.toNat := by simp [UInt8.toNat_ofNat']; omega
  rw [e, Int.toNat_of_nonneg h0]
theorem opens_LB {n : Nat} {t e : TypeId} {S : Blocks} (hS : ∀ b, b < w.heap.size → S b) (ht : P.underlying t = some (.slice e)) (hb : 1 ≤ P.bytesOf e) (hsz : P.cellsOf e = 1) (he : P.underlying e = some (.int .u8)) : Opens enc P w (n + 1) t (rLB.R w S) :=
  opens_slice hS ht hb hsz Nat.one_pos (opens_u8 he)
theorem opens_PL {n : Nat} {tp ti tl e : TypeId} {S : Blocks} (hS : ∀ b, b < w.heap.size → S b) {g0 g1 g2 : Field} (hx : P.underlying tp = some (.struct #[g0, g1, g2])) (hxc : P.cellsOf tp = 3)
    (d0 : g0.type = ti ∧ g0.offset = 0) (d1 : g1.type = tl ∧ g1.offset = 1) (d2 : g2.type = tl ∧ g2.offset = 2) (hi : P.underlying ti = some (.int .i64)) (hic : P.cellsOf ti = 1) (hl : P.underlying tl = some (.slice e)) (hlc : P.cellsOf tl = 1) (bf : 1 ≤ P.bytesOf e)
    (hc : P.cellsOf e = 1) (he : P.underlying e = some (.int .u8)) : Opens enc P w n tp (rPL.R w S) := fun m hm cs x h hw => by
  obtain ⟨hlen, m', rfl, hf⟩ := opens_field hx h hw
  rw [hxc] at hlen
  rcases cs with _ | ⟨a0, _ | ⟨a1, _ | ⟨a2, _ | ⟨a3, l⟩⟩⟩⟩ <;> simp at hlen
  obtain ⟨y0, t0, w0⟩ := hf 0 g0 rfl
  obtain ⟨y1, t1, w1⟩ := hf 1 g1 rfl
  obtain ⟨y2, t2, w2⟩ := hf 2 g2 rfl
  rw [d0.1] at t0 w0
  rw [d1.1] at t1 w1
  rw [d2.1] at t2 w2
  rw [d0.2, hic] at t0
  rw [d1.2, hlc] at t1
  rw [d2.2, hlc] at t2
  obtain ⟨k, hk, hkb⟩ := opens_int (n := m') hi m' (Nat.le_refl _) _ _ t0 w0
  obtain ⟨fs, v, hv, hfs⟩ := opens_LB (n := m') (S := S) hS hl bf hc he m' (by omega) _ _ t1 w1
  obtain ⟨gs, v', hv', hgs⟩ := opens_LB (n := m') (S := S) hS hl bf hc he m' (by omega) _ _ t2 w2
  simp at hk hv hv'
  subst hk hv hv'
  exact ⟨⟨k, fs, gs⟩, [_], [_, _], rfl, ⟨rfl, hkb⟩, [_], [_], rfl, ⟨_, rfl, hfs⟩, ⟨_, rfl, hgs⟩⟩
end
end Go.Mu
