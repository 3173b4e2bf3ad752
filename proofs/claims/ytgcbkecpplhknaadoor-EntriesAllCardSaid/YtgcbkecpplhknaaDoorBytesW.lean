/- Own words: slices of bytes, and how they are compared; no program in sight. -/
import Derived.Test.YtgcbkecpplhknaaDoorMu
import Derived.Lib.BytesEntry
import Derived.Lib.Bytealg
set_option linter.unusedVariables false
namespace Go.Mu
open Go.RowKit

def rByte : Rep UInt8 where
  sz := 1
  R := fun _ _ x cs => cs = [.int .u8 (x.toNat : Int)]
  len := by rintro _ _ _ _ rfl; rfl
  one := by rintro _ _ _ _ rfl u hu; simp at hu; subst hu; rfl
  frame := fun h _ => h
  mono := fun h _ => h
  bound := fun h => h
def rLB : Rep (List UInt8) := rSlice rByte

theorem bytes_of_nat (l : List UInt8) : Lib.bytesOf (l.map fun x => (x.toNat : Int)) = l := by
  unfold Lib.bytesOf
  rw [List.map_map]
  conv => rhs; rw [← List.map_id l]
  apply List.map_congr_left
  intro x _
  simp

theorem run_bytesOf (P : Program) (w : World) (S : Blocks) (l : List UInt8) (A : Option Addr) (c : Nat) (h : SliceR (rByte.R w S) 1 w S l (.slice A l.length c)) :
    (Extern.Bytes.bytesOf (.slice A l.length c)).run P w = .ok ⟨l.toArray⟩ w := by
  obtain ⟨A', c', he, _, _, h3⟩ := h
  injection he with he _ _
  subst he
  cases l with
  | nil => cases A <;> rfl
  | cons x l =>
    obtain ⟨b, o, rfl, _, _, hc⟩ := h3 (by simp)
    have hl := Lib.run_loadBytesX (P := P) w ((x :: l).map fun x => (x.toNat : Int)) ⟨b, o, none⟩ .empty (fun j y hj => by
      rw [List.getElem?_map] at hj
      obtain ⟨z, hz, rfl⟩ := Option.map_eq_some_iff.1 hj
      obtain ⟨cs, hR, hcc⟩ := hc j z hz
      cases hR
      have h0 := hcc.one
      have e : (⟨b, o, none⟩ : Addr).add j = ⟨b, o + j, none⟩ := by unfold Addr.add; split <;> simp_all
      rw [e]
      simpa using h0)
    rw [List.length_map, bytes_of_nat] at hl
    show (Extern.Bytes.loadBytes ⟨b, o, none⟩ (x :: l).length .empty).run P w = _
    rw [hl]
    congr 1
    apply ByteArray.ext
    show (#[] : Array UInt8) ++ (x :: l).toArray = (x :: l).toArray
    simp

theorem run_compare (P : Program) (w : World) (S S' : Blocks) (l l' : List UInt8) (A A' : Option Addr) (c c' : Nat) (h : SliceR (rByte.R w S) 1 w S l (.slice A l.length c)) (h' : SliceR (rByte.R w S') 1 w S' l' (.slice A' l'.length c')) :
    (Extern.BytealgCompare.compare #[.slice A l.length c, .slice A' l'.length c']).run P w = .ok (.int .i64 (Lib.compareBytes l l')) w := by
  have e1 := run_bytesOf P w S l A c h
  have e2 := run_bytesOf P w S' l' A' c' h'
  show Sem.run P (do pure (goInt (Extern.BytealgCompare.cmp (← Extern.Bytes.bytesOf (.slice A l.length c)) (← Extern.Bytes.bytesOf (.slice A' l'.length c'))))) w = _
  simp only [Sem.run_bind, e1, e2, Result.andThen_ok, Sem.run_pure]
  have hcmp : Extern.BytealgCompare.cmp ⟨l.toArray⟩ ⟨l'.toArray⟩ = Lib.compareBytes l l' := by
    first | exact (Lib.cmp_eq ⟨l.toArray⟩ ⟨l'.toArray⟩) | (rw [Lib.cmp_eq])
  rw [hcmp]; rfl

/-! ### lexicographic order -/
theorem cmp_drop {l l' : List UInt8} : ∀ (k : Nat), k ≤ l.length → k ≤ l'.length → (∀ j, j < k → l[j]? = l'[j]?) → Lib.compareBytes l l' = Lib.compareBytes (l.drop k) (l'.drop k) := by
  intro k
  induction k generalizing l l' with
  | zero => intro _ _ _; rfl
  | succ k ih =>
    intro h1 h2 h
    match l, l', h1, h2, h with
    | x :: l, y :: l', h1, h2, h =>
      have hxy : x = y := by have := h 0 (by omega); simpa using this
      subst hxy
      have hlt : ¬ x < x := UInt8.lt_irrefl x
      rw [List.drop_succ_cons, List.drop_succ_cons, Lib.compareBytes, if_neg hlt, if_neg hlt]
      exact ih (by simpa using h1) (by simpa using h2) (fun j hj => by have := h (j + 1) (by omega); simpa using this)
    | [], _, h1, _, _ => simp at h1
    | _ :: _, [], _, h2, _ => simp at h2
/-- Less. -/
def lessL (a b : List UInt8) : Bool := decide (Lib.compareBytes a b < 0)
theorem less_at {l l' : List UInt8} {k : Nat} {x y : UInt8} (h : ∀ j, j < k → l[j]? = l'[j]?) (hx : l[k]? = some x) (hy : l'[k]? = some y) (hne : x ≠ y) : lessL l l' = decide ((x.toNat : Int) < (y.toNat : Int)) := by
  have h1 := (List.getElem?_eq_some_iff.1 hx)
  have h2 := (List.getElem?_eq_some_iff.1 hy)
  obtain ⟨h1, e1⟩ := h1
  obtain ⟨h2, e2⟩ := h2
  unfold lessL
  rw [cmp_drop k (by omega) (by omega) h, List.drop_eq_getElem_cons h1, List.drop_eq_getElem_cons h2, e1, e2, Lib.compareBytes]
  by_cases hlt : x < y
  · rw [if_pos hlt]
    rw [UInt8.lt_iff_toNat_lt] at hlt
    rw [Bool.eq_iff_iff]; simp; omega
  · rw [if_neg hlt]
    have hgt : y < x := UInt8.lt_of_le_of_ne (UInt8.not_lt.1 hlt) (Ne.symm hne)
    rw [if_pos hgt]
    rw [UInt8.lt_iff_toNat_lt] at hgt
    rw [Bool.eq_iff_iff]; simp; omega
theorem less_end {l l' : List UInt8} {k : Nat} (h : ∀ j, j < k → l[j]? = l'[j]?) (hk : k ≤ l.length) (hk' : k ≤ l'.length) (he : k = l.length ∨ k = l'.length) : lessL l l' = decide ((l.length : Int) < (l'.length : Int)) := by
  unfold lessL
  rw [cmp_drop k hk hk' h]
  rcases he with rfl | rfl
  · rw [List.drop_length]
    cases hd : l'.drop l.length with
    | nil =>
      have := List.drop_eq_nil_iff.1 hd
      rw [Lib.compareBytes, Bool.eq_iff_iff]; simp; omega
    | cons a t =>
      have : l.length < l'.length := by
        rcases Nat.lt_or_ge l.length l'.length with h | h
        · exact h
        · rw [List.drop_of_length_le h] at hd; cases hd
      rw [Lib.compareBytes, Bool.eq_iff_iff]; simp; omega
  · rw [List.drop_length]
    cases hd : l.drop l'.length with
    | nil =>
      have := List.drop_eq_nil_iff.1 hd
      rw [Lib.compareBytes, Bool.eq_iff_iff]; simp; omega
    | cons a t => rw [Lib.compareBytes, Bool.eq_iff_iff]; simp; omega

/-! ### plans -/
structure PL where
  index : Int
  fr : List UInt8
  to : List UInt8
def rPL : Rep PL := ((rInt .i64).prod (rLB.prod rLB)).via (fun p => (p.index, p.fr, p.to))
theorem rPL_open {w : World} {S : Blocks} {p : PL} {cs : List Value} (h : rPL.R w S p cs) :
    ∃ A c A' c', cs = [.int .i64 p.index, .slice A p.fr.length c, .slice A' p.to.length c'] ∧ SliceR (rByte.R w S) 1 w S p.fr (.slice A p.fr.length c) ∧ SliceR (rByte.R w S) 1 w S p.to (.slice A' p.to.length c') ∧ IntKind.i64.min ≤ p.index ∧ p.index ≤ IntKind.i64.max := by
  obtain ⟨c, d, rfl, ⟨rfl, h1⟩, c2, d2, rfl, ⟨v, rfl, hs⟩, ⟨v', rfl, hs'⟩⟩ := h
  obtain ⟨A, c', rfl, hr⟩ := hs
  obtain ⟨A', c'', rfl, hr'⟩ := hs'
  exact ⟨A, c', A', c'', rfl, ⟨A, c', rfl, hr⟩, ⟨A', c'', rfl, hr'⟩, h1⟩
/-- Does a key lie within a plan's range? -/
def withinS (p : PL) (k : List UInt8) : Bool := decide (p.index = -1) || (!lessL k p.fr && lessL k p.to)
end Go.Mu
