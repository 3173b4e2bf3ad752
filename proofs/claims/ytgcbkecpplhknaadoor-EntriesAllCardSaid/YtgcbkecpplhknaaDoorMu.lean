/- Own words: how values of Go lie in memory (Rep), rows of them, footprints; no program in sight. -/
import Derived.WalkKit
import Derived.Below
import Derived.Lib.Hide
import Derived.Deep.LoopGhost
import Derived.KernelRfl
import Derived.Deep.Draws
set_option linter.unusedVariables false
namespace Go.Mu
open Go.RowKit

abbrev Blocks := Nat → Prop

/-- A fact that the walk's simp does not look into. -/
structure K (p : Prop) : Prop where mk :: (o : p)

/-- How a value of type α lies in cells: R w S x cs: the cells cs say x; what they lead to lies in blocks of S. -/
structure Rep (α : Type) where
  sz : Nat
  R : World → Blocks → α → List Value → Prop
  len : ∀ {w S x cs}, R w S x cs → cs.length = sz
  one : ∀ {w S x cs}, R w S x cs → ∀ u ∈ cs, u.oneCell' = true
  frame : ∀ {w w' : World} {S x cs}, R w S x cs → (∀ b, S b → w'.heap[b]? = w.heap[b]?) → R w' S x cs
  mono : ∀ {w S S' x cs}, R w S x cs → (∀ b, S b → S' b) → R w S' x cs
  bound : ∀ {w : World} {S x cs}, R w S x cs → R w (fun b => S b ∧ b < w.heap.size) x cs

theorem Rep.step {α : Type} {r : Rep α} {w w' : World} {S S' : Blocks} {x : α} {cs : List Value} (h : r.R w S x cs)
    (hm : ∀ b, S b → b < w.heap.size → w'.heap[b]? = w.heap[b]? ∧ S' b) : r.R w' S' x cs :=
  r.mono (r.frame (r.bound h) (fun b hb => (hm b hb.1 hb.2).1)) (fun b hb => (hm b hb.1 hb.2).2)

theorem Rep.below {α : Type} {r : Rep α} {w w' : World} {S : Blocks} {x : α} {cs : List Value} (h : r.R w S x cs) (hb : Below w.heap.size w w') : r.R w' S x cs :=
  Rep.step h (fun b hs hlt => ⟨hb.block b hlt, hs⟩)

/-! ### scalars -/
def rInt (k : IntKind) : Rep Int where
  sz := 1
  R := fun _ _ n cs => cs = [.int k n] ∧ k.min ≤ n ∧ n ≤ k.max
  len := by rintro _ _ _ _ ⟨rfl, _⟩; rfl
  one := by rintro _ _ _ _ ⟨rfl, _⟩ u hu; simp at hu; subst hu; rfl
  frame := fun h _ => h
  mono := fun h _ => h
  bound := fun h => h
def rBool : Rep Bool where
  sz := 1
  R := fun _ _ n cs => cs = [.bool n]
  len := by rintro _ _ _ _ rfl; rfl
  one := by rintro _ _ _ _ rfl u hu; simp at hu; subst hu; rfl
  frame := fun h _ => h
  mono := fun h _ => h
  bound := fun h => h
/-- The most bytes that a text of ours has (2^48). -/
abbrev strMax : Nat := 281474976710656
/-- A slice's length, and its capacity, are not too great. -/
def CapOk (n c : Nat) : Prop := n ≤ 281474976710656 ∧ c ≤ 9223372036854775807
theorem capOk_of {n c : Nat} (h : n ≤ c) (h2 : c ≤ strMax) : CapOk n c := ⟨Nat.le_trans h h2, Nat.le_trans h2 (by decide)⟩
theorem capOk_nil : CapOk 0 0 := ⟨Nat.zero_le _, Nat.zero_le _⟩
def rStr : Rep ByteArray where
  sz := 1
  R := fun _ _ s cs => cs = [.string s] ∧ s.size ≤ strMax
  len := by rintro _ _ _ _ ⟨rfl, _⟩; rfl
  one := by rintro _ _ _ _ ⟨rfl, _⟩ u hu; simp at hu; subst hu; rfl
  frame := fun h _ => h
  mono := fun h _ => h
  bound := fun h => h

/-! ### rows -/
/-- The cells cs lie at offset o of block b. -/
def CellsAt (w : World) (b o : Nat) (cs : List Value) : Prop := ∀ i u, cs[i]? = some u → w.cell? ⟨b, o + i, none⟩ = some u
theorem CellsAt.frame {w w' : World} {b o : Nat} {cs : List Value} (h : CellsAt w b o cs) (hb : w'.heap[b]? = w.heap[b]?) : CellsAt w' b o cs := fun i u hu => by
  rw [← h i u hu]; exact World.cell?_of_block (w := w) (a := ⟨b, o + i, none⟩) hb
theorem CellsAt.lt {w : World} {b o : Nat} {cs : List Value} (h : CellsAt w b o cs) (hne : cs ≠ []) : b < w.heap.size := by
  obtain ⟨c, cs', rfl⟩ := List.exists_cons_of_ne_nil hne
  exact World.block_lt_of_cell? w ⟨b, o + 0, none⟩ (h 0 c rfl)

/-- A slice (its one value) that reads as the list xs. -/
def SliceR {α : Type} (R : α → List Value → Prop) (sz : Nat) (w : World) (S : Blocks) (xs : List α) (v : Value) : Prop :=
  ∃ A c, v = .slice A xs.length c ∧ xs.length ≤ c ∧ CapOk xs.length c ∧ (xs ≠ [] → ∃ b o, A = some ⟨b, o, none⟩ ∧ S b ∧ b < w.heap.size ∧
    ∀ j x, xs[j]? = some x → ∃ cs, R x cs ∧ CellsAt w b (o + j * sz) cs)

def rSlice {α : Type} (r : Rep α) : Rep (List α) where
  sz := 1
  R := fun w S xs cs => ∃ v, cs = [v] ∧ SliceR (r.R w S) r.sz w S xs v
  len := by rintro _ _ _ _ ⟨v, rfl, _⟩; rfl
  one := by rintro _ _ _ _ ⟨v, rfl, A, c, rfl, _⟩ u hu; simp at hu; subst hu; rfl
  frame := by
    rintro w w' S xs cs ⟨v, rfl, A, c, rfl, h1, h2, h3⟩ hm
    refine ⟨_, rfl, A, c, rfl, h1, h2, fun hne => ?_⟩
    obtain ⟨b, o, rfl, hS, hb, hc⟩ := h3 hne
    refine ⟨b, o, rfl, hS, ?_, fun j x hx => ?_⟩
    · have h := hm b hS
      rw [Array.getElem?_eq_getElem hb] at h
      exact (Array.getElem?_eq_some_iff.1 h).1
    · obtain ⟨cs, hr, hcc⟩ := hc j x hx
      exact ⟨cs, r.frame hr hm, hcc.frame (hm b hS)⟩
  mono := by
    rintro w S S' xs cs ⟨v, rfl, A, c, rfl, h1, h2, h3⟩ hm
    refine ⟨_, rfl, A, c, rfl, h1, h2, fun hne => ?_⟩
    obtain ⟨b, o, rfl, hS, hb, hc⟩ := h3 hne
    refine ⟨b, o, rfl, hm b hS, hb, fun j x hx => ?_⟩
    obtain ⟨cs, hr, hcc⟩ := hc j x hx
    exact ⟨cs, r.mono hr hm, hcc⟩
  bound := by
    rintro w S xs cs ⟨v, rfl, A, c, rfl, h1, h2, h3⟩
    refine ⟨_, rfl, A, c, rfl, h1, h2, fun hne => ?_⟩
    obtain ⟨b, o, rfl, hS, hb, hc⟩ := h3 hne
    refine ⟨b, o, rfl, ⟨hS, hb⟩, hb, fun j x hx => ?_⟩
    obtain ⟨cs, hr, hcc⟩ := hc j x hx
    exact ⟨cs, r.bound hr, hcc⟩

/-! ### products, structs -/
def Rep.prod {α β : Type} (a : Rep α) (b : Rep β) : Rep (α × β) where
  sz := a.sz + b.sz
  R := fun w S x cs => ∃ c d, cs = c ++ d ∧ a.R w S x.1 c ∧ b.R w S x.2 d
  len := by rintro _ _ _ _ ⟨c, d, rfl, h1, h2⟩; rw [List.length_append, a.len h1, b.len h2]
  one := by
    rintro _ _ _ _ ⟨c, d, rfl, h1, h2⟩ u hu
    rcases List.mem_append.1 hu with hu | hu
    · exact a.one h1 u hu
    · exact b.one h2 u hu
  frame := by rintro _ _ _ _ _ ⟨c, d, rfl, h1, h2⟩ hm; exact ⟨c, d, rfl, a.frame h1 hm, b.frame h2 hm⟩
  mono := by rintro _ _ _ _ _ ⟨c, d, rfl, h1, h2⟩ hm; exact ⟨c, d, rfl, a.mono h1 hm, b.mono h2 hm⟩
  bound := by rintro _ _ _ _ ⟨c, d, rfl, h1, h2⟩; exact ⟨c, d, rfl, a.bound h1, b.bound h2⟩
def Rep.via {α β : Type} (a : Rep α) (f : β → α) : Rep β where
  sz := a.sz
  R := fun w S x cs => a.R w S (f x) cs
  len := fun h => a.len h
  one := fun h => a.one h
  frame := fun h hm => a.frame h hm
  mono := fun h hm => a.mono h hm
  bound := fun h => a.bound h

/-! ### the values of the documents -/
structure JV where
  kind : Int
  num : Int
  text : ByteArray
  names : List ByteArray
  items : List JV

theorem JV.ind {P : JV → Prop} (h : ∀ v : JV, (∀ x ∈ v.items, P x) → P v) : ∀ v, P v := by
  intro v
  refine JV.rec (motive_1 := P) (motive_2 := fun l => ∀ x ∈ l, P x) (fun k n t ns is ih => h _ ih) (fun x hx => by cases hx) (fun a l iha ihl x hx => ?_) v
  rcases List.mem_cons.1 hx with rfl | hx
  · exact iha
  · exact ihl x hx

inductive RV (w : World) (S : Blocks) : JV → List Value → Prop
  | mk (v : JV) (vn : Value) (A : Option Addr) (c b o : Nat) (cs : Nat → List Value)
      (hk : IntKind.i64.min ≤ v.kind ∧ v.kind ≤ IntKind.i64.max) (hn : IntKind.i64.min ≤ v.num ∧ v.num ≤ IntKind.i64.max) (ht : v.text.size ≤ strMax)
      (hnames : SliceR (rStr.R w S) 1 w S v.names vn) (hc : v.items.length ≤ c) (hcm : CapOk v.items.length c)
      (hA : v.items ≠ [] → A = some ⟨b, o, none⟩ ∧ S b ∧ b < w.heap.size)
      (hi : ∀ j x, v.items[j]? = some x → RV w S x (cs j)) (hcells : ∀ j x, v.items[j]? = some x → CellsAt w b (o + j * 5) (cs j)) :
      RV w S v [.int .i64 v.kind, .int .i64 v.num, .string v.text, vn, .slice A v.items.length c]

theorem RV.open_ {w : World} {S : Blocks} {v : JV} {cs : List Value} (h : RV w S v cs) :
    ∃ vn vi, cs = [.int .i64 v.kind, .int .i64 v.num, .string v.text, vn, vi] ∧ SliceR (rStr.R w S) 1 w S v.names vn ∧ SliceR (RV w S) 5 w S v.items vi ∧
      (IntKind.i64.min ≤ v.kind ∧ v.kind ≤ IntKind.i64.max) ∧ (IntKind.i64.min ≤ v.num ∧ v.num ≤ IntKind.i64.max) ∧ v.text.size ≤ strMax := by
  cases h with
  | mk _ vn A c b o cs hk hn ht hnames hc hcm hA hi hcells =>
    refine ⟨vn, _, rfl, hnames, ⟨A, c, rfl, hc, hcm, fun hne => ?_⟩, hk, hn, ht⟩
    obtain ⟨rfl, hS, hb⟩ := hA hne
    exact ⟨b, o, rfl, hS, hb, fun j x hx => ⟨cs j, hi j x hx, hcells j x hx⟩⟩

theorem RV.close {w : World} {S : Blocks} {v : JV} {vn vi : Value} (hnames : SliceR (rStr.R w S) 1 w S v.names vn) (hitems : SliceR (RV w S) 5 w S v.items vi)
    (hk : IntKind.i64.min ≤ v.kind ∧ v.kind ≤ IntKind.i64.max) (hn : IntKind.i64.min ≤ v.num ∧ v.num ≤ IntKind.i64.max) (ht : v.text.size ≤ strMax) :
    RV w S v [.int .i64 v.kind, .int .i64 v.num, .string v.text, vn, vi] := by
  obtain ⟨A, c, rfl, hc, hcm, h3⟩ := hitems
  by_cases hne : v.items = []
  · exact RV.mk v vn A c 0 0 (fun _ => []) hk hn ht hnames hc hcm (fun h => absurd hne h) (fun j x hx => by simp [hne] at hx) (fun j x hx => by simp [hne] at hx)
  · obtain ⟨b, o, rfl, hS, hb, hcs⟩ := h3 hne
    have hch : ∀ j, ∃ cs, ∀ x, v.items[j]? = some x → RV w S x cs ∧ CellsAt w b (o + j * 5) cs := by
      intro j
      cases hx : v.items[j]? with
      | none => exact ⟨[], fun x hx => by cases hx⟩
      | some x =>
        obtain ⟨cs, h1, h2⟩ := hcs j x hx
        exact ⟨cs, fun y hy => by cases hy; exact ⟨h1, h2⟩⟩
    exact RV.mk v vn _ c b o (fun j => Classical.choose (hch j)) hk hn ht hnames hc hcm (fun _ => ⟨rfl, hS, hb⟩)
      (fun j x hx => (Classical.choose_spec (hch j) x hx).1) (fun j x hx => (Classical.choose_spec (hch j) x hx).2)

theorem SliceR.imp {α : Type} {R R' : α → List Value → Prop} {sz : Nat} {w w' : World} {S S' : Blocks} {xs : List α} {v : Value} (h : SliceR R sz w S xs v)
    (hS : ∀ b, S b → b < w.heap.size → w'.heap[b]? = w.heap[b]? ∧ S' b) (hR : ∀ x ∈ xs, ∀ cs, R x cs → R' x cs) : SliceR R' sz w' S' xs v := by
  obtain ⟨A, c, rfl, h1, h2, h3⟩ := h
  refine ⟨A, c, rfl, h1, h2, fun hne => ?_⟩
  obtain ⟨b, o, rfl, hSb, hb, hc⟩ := h3 hne
  have hm := hS b hSb hb
  refine ⟨b, o, rfl, hm.2, ?_, fun j x hx => ?_⟩
  · have h := hm.1
    rw [Array.getElem?_eq_getElem hb] at h
    exact (Array.getElem?_eq_some_iff.1 h).1
  · obtain ⟨cs, hr, hcc⟩ := hc j x hx
    exact ⟨cs, hR x (List.mem_of_getElem? hx) cs hr, hcc.frame hm.1⟩

theorem RV.step {w w' : World} {S S' : Blocks} (hm : ∀ b, S b → b < w.heap.size → w'.heap[b]? = w.heap[b]? ∧ S' b) : ∀ (v : JV) (cs : List Value), RV w S v cs → RV w' S' v cs := by
  intro v
  induction v using JV.ind with
  | h v ih =>
    intro cs h
    obtain ⟨vn, vi, rfl, h1, h2, hk, hn, ht⟩ := h.open_
    exact RV.close (h1.imp hm (fun x _ cs hr => hr)) (h2.imp hm ih) hk hn ht

/-- The same, both slices written out. -/
theorem RV.wide {w : World} {S : Blocks} {v : JV} {cs : List Value} (h : RV w S v cs) :
    ∃ An cn Ai ci, cs = [.int .i64 v.kind, .int .i64 v.num, .string v.text, .slice An v.names.length cn, .slice Ai v.items.length ci] ∧
      SliceR (rStr.R w S) 1 w S v.names (.slice An v.names.length cn) ∧ SliceR (RV w S) 5 w S v.items (.slice Ai v.items.length ci) ∧
      (IntKind.i64.min ≤ v.kind ∧ v.kind ≤ IntKind.i64.max) ∧ (IntKind.i64.min ≤ v.num ∧ v.num ≤ IntKind.i64.max) ∧ v.text.size ≤ strMax := by
  obtain ⟨vn, vi, rfl, ⟨A, c, rfl, h1⟩, ⟨A', c', rfl, h2⟩, h3⟩ := h.open_
  exact ⟨A, c, A', c', rfl, ⟨A, c, rfl, h1⟩, ⟨A', c', rfl, h2⟩, h3⟩

/-- What an element of a slice gives: where it lies. -/
theorem SliceR.at {α : Type} {R : α → List Value → Prop} {sz : Nat} {w : World} {S : Blocks} {xs : List α} {A : Option Addr} {n c : Nat} (h : SliceR R sz w S xs (.slice A n c)) (k : Nat) (hk : k < xs.length) :
    ∃ b o x cs, A = some ⟨b, o, none⟩ ∧ S b ∧ b < w.heap.size ∧ xs[k]? = some x ∧ R x cs ∧ CellsAt w b (o + k * sz) cs := by
  obtain ⟨A', c', he, h1, h2, h3⟩ := h
  injection he with he _ _
  subst he
  obtain ⟨b, o, rfl, hS, hb, hc⟩ := h3 (by intro h0; rw [h0] at hk; exact absurd hk (Nat.not_lt_zero _))
  obtain ⟨cs, hr, hcc⟩ := hc k _ (List.getElem?_eq_getElem hk)
  exact ⟨b, o, _, cs, rfl, hS, hb, List.getElem?_eq_getElem hk, hr, hcc⟩
theorem SliceR.at1 {α : Type} {R : α → List Value → Prop} {w : World} {S : Blocks} {xs : List α} {A : Option Addr} {n c : Nat} (h : SliceR R 1 w S xs (.slice A n c)) (k : Nat) (hk : k < xs.length) :
    ∃ b o x cs, A = some ⟨b, o, none⟩ ∧ S b ∧ b < w.heap.size ∧ xs[k]? = some x ∧ R x cs ∧ CellsAt w b (o + k) cs := by
  have := h.at k hk
  rwa [Nat.mul_one] at this
theorem SliceR.len_le {α : Type} {R : α → List Value → Prop} {sz : Nat} {w : World} {S : Blocks} {xs : List α} {v : Value} (h : SliceR R sz w S xs v) : xs.length ≤ 281474976710656 := by
  obtain ⟨A, c, rfl, h1, h2, _⟩ := h
  exact h2.1
theorem CellsAt.below {w w' : World} {b o : Nat} {cs : List Value} (h : CellsAt w b o cs) (hb : Below w.heap.size w w') : CellsAt w' b o cs := by
  intro i u hu
  have hne : cs ≠ [] := by rintro rfl; simp at hu
  exact h.frame (hb.block b (h.lt hne)) i u hu

theorem CellsAt.one {w : World} {b o : Nat} {c0 : Value} (h : CellsAt w b o [c0]) : w.cell? ⟨b, o, none⟩ = some c0 := h 0 _ rfl
theorem CellsAt.two {w : World} {b o : Nat} {c0 c1 : Value} (h : CellsAt w b o [c0, c1]) : w.cell? ⟨b, o, none⟩ = some c0 ∧ w.cell? ⟨b, o + 1, none⟩ = some c1 := ⟨h 0 _ rfl, h 1 _ rfl⟩
theorem CellsAt.three {w : World} {b o : Nat} {c0 c1 c2 : Value} (h : CellsAt w b o [c0, c1, c2]) : w.cell? ⟨b, o, none⟩ = some c0 ∧ w.cell? ⟨b, o + 1, none⟩ = some c1 ∧ w.cell? ⟨b, o + 2, none⟩ = some c2 := ⟨h 0 _ rfl, h 1 _ rfl, h 2 _ rfl⟩
theorem CellsAt.four {w : World} {b o : Nat} {c0 c1 c2 c3 : Value} (h : CellsAt w b o [c0, c1, c2, c3]) : w.cell? ⟨b, o, none⟩ = some c0 ∧ w.cell? ⟨b, o + 1, none⟩ = some c1 ∧ w.cell? ⟨b, o + 2, none⟩ = some c2 ∧ w.cell? ⟨b, o + 3, none⟩ = some c3 := ⟨h 0 _ rfl, h 1 _ rfl, h 2 _ rfl, h 3 _ rfl⟩
theorem CellsAt.five {w : World} {b o : Nat} {c0 c1 c2 c3 c4 : Value} (h : CellsAt w b o [c0, c1, c2, c3, c4]) : w.cell? ⟨b, o, none⟩ = some c0 ∧ w.cell? ⟨b, o + 1, none⟩ = some c1 ∧ w.cell? ⟨b, o + 2, none⟩ = some c2 ∧ w.cell? ⟨b, o + 3, none⟩ = some c3 ∧ w.cell? ⟨b, o + 4, none⟩ = some c4 := ⟨h 0 _ rfl, h 1 _ rfl, h 2 _ rfl, h 3 _ rfl, h 4 _ rfl⟩

def rV : Rep JV where
  sz := 5
  R := RV
  len := fun h => by obtain ⟨vn, vi, rfl, _⟩ := h.open_; rfl
  one := fun h => by
    obtain ⟨vn, vi, rfl, ⟨A, c, rfl, _⟩, ⟨A', c', rfl, _⟩, _⟩ := h.open_
    intro u hu
    simp at hu
    rcases hu with rfl | rfl | rfl | rfl | rfl <;> rfl
  frame := fun h hm => RV.step (fun b hb _ => ⟨hm b hb, hb⟩) _ _ h
  mono := fun h hm => RV.step (fun b hb _ => ⟨rfl, hm b hb⟩) _ _ h
  bound := fun h => RV.step (fun b hb hlt => ⟨rfl, hb, hlt⟩) _ _ h


theorem ret_int {k : IntKind} {a b : Int} (h : a = b) : Ending.returned (.int k a) = .returned (.int k b) := by rw [h]
theorem ret_bool {a b : Bool} (h : a = b) : Ending.returned (.bool a) = .returned (.bool b) := by rw [h]
theorem ret_str {a b : ByteArray} (h : a = b) : Ending.returned (.string a) = .returned (.string b) := by rw [h]

/-! ### blocks of a call's own: variables in memory -/
/-- Block g holds just these cells, of element type t. -/
def Blk (w : World) (g : Nat) (t : TypeId) (cs : List Value) : Prop := w.heap[g]? = some (.cells cs.toArray t (0, 0))
theorem Blk.lt {w : World} {g : Nat} {t : TypeId} {cs : List Value} (h : Blk w g t cs) : g < w.heap.size := (Array.getElem?_eq_some_iff.1 h).1
theorem Blk.cell {w : World} {g : Nat} {t : TypeId} {cs : List Value} (h : Blk w g t cs) (i : Nat) {v : Value} (hv : cs[i]? = some v) : w.cell? ⟨g, i, none⟩ = some v := by
  rw [cell_of_row w g i cs.toArray t (0, 0) h]; simpa using hv
theorem Blk.frozen {w : World} {g : Nat} {t : TypeId} {cs : List Value} (h : Blk w g t cs) (i : Nat) : w.frozen? ⟨g, i, none⟩ = false := by simp [World.frozen?, show w.heap[g]? = _ from h]
theorem Blk.below {w w' : World} {g n : Nat} {t : TypeId} {cs : List Value} (h : Blk w g t cs) (hb : Below n w w') (hn : g < n) : Blk w' g t cs := (hb.block g hn).trans h
theorem Blk.new (w : World) (t : TypeId) (cs : List Value) : Blk (w.alloc (.cells cs.toArray t)) w.heap.size t cs := heap_alloc_new w _
theorem Blk.newAt {w : World} {g : Nat} (h : w.heap.size = g) (t : TypeId) (cs : List Value) : Blk (w.alloc (.cells cs.toArray t)) g t cs := h ▸ Blk.new w t cs
theorem Blk.new1 (w : World) (o : Obj) (t : TypeId) (cs : List Value) : Blk ((w.alloc (.cells cs.toArray t)).alloc o) w.heap.size t cs := by
  have h := heap_alloc_new w (.cells cs.toArray t)
  exact (Below.heap_alloc (w.alloc (.cells cs.toArray t)) o w.heap.size (by simp)).trans h
theorem Blk.new2 (w : World) (o : Obj) (t : TypeId) (cs : List Value) : Blk ((w.alloc o).alloc (.cells cs.toArray t)) (w.heap.size + 1) t cs := by
  have h := heap_alloc_new (w.alloc o) (.cells cs.toArray t)
  rwa [World.size_alloc] at h
theorem Blk.alloc {w : World} {g : Nat} {t : TypeId} {cs : List Value} (h : Blk w g t cs) (o : Obj) : Blk (w.alloc o) g t cs := (Below.heap_alloc w o g h.lt).trans h
theorem Blk.drew {w : World} {g : Nat} {t : TypeId} {cs : List Value} (h : Blk w g t cs) : Blk w.drew g t cs := h
theorem Blk.set {w : World} {g : Nat} {t : TypeId} {cs : List Value} (h : Blk w g t cs) (i : Nat) (u : Value) : Blk (w.setCell ⟨g, i, none⟩ u) g t (cs.set i u) := by
  unfold Blk; simp [World.setCell, Array.getElem?_modify, show w.heap[g]? = _ from h]
theorem Blk.far {w : World} {g : Nat} {t : TypeId} {cs : List Value} (h : Blk w g t cs) {p : Addr} (hp : g ≠ p.block) (u : Value) : Blk (w.setCell p u) g t cs := (Below.heap_setCell w p u g hp).trans h
theorem Blk.grown {w w' : World} {g : Nat} {t : TypeId} {cs : List Value} {row : Option Nat} (h : Blk w g t cs) (hg : w.grownBy w' row) (hne : some g ≠ row) : Blk w' g t cs := (hg.block g h.lt hne).trans h
theorem Blk.one {w : World} {g : Nat} {t : TypeId} {c0 : Value} (h : Blk w g t [c0]) : w.cell? ⟨g, 0, none⟩ = some c0 := h.cell 0 rfl
theorem Blk.two {w : World} {g : Nat} {t : TypeId} {c0 c1 : Value} (h : Blk w g t [c0, c1]) : w.cell? ⟨g, 0, none⟩ = some c0 ∧ w.cell? ⟨g, 1, none⟩ = some c1 := ⟨h.cell 0 rfl, h.cell 1 rfl⟩
theorem Blk.three {w : World} {g : Nat} {t : TypeId} {c0 c1 c2 : Value} (h : Blk w g t [c0, c1, c2]) : w.cell? ⟨g, 0, none⟩ = some c0 ∧ w.cell? ⟨g, 1, none⟩ = some c1 ∧ w.cell? ⟨g, 2, none⟩ = some c2 := ⟨h.cell 0 rfl, h.cell 1 rfl, h.cell 2 rfl⟩
theorem Blk.four {w : World} {g : Nat} {t : TypeId} {c0 c1 c2 c3 : Value} (h : Blk w g t [c0, c1, c2, c3]) : w.cell? ⟨g, 0, none⟩ = some c0 ∧ w.cell? ⟨g, 1, none⟩ = some c1 ∧ w.cell? ⟨g, 2, none⟩ = some c2 ∧ w.cell? ⟨g, 3, none⟩ = some c3 := ⟨h.cell 0 rfl, h.cell 1 rfl, h.cell 2 rfl, h.cell 3 rfl⟩
theorem Blk.five {w : World} {g : Nat} {t : TypeId} {c0 c1 c2 c3 c4 : Value} (h : Blk w g t [c0, c1, c2, c3, c4]) : w.cell? ⟨g, 0, none⟩ = some c0 ∧ w.cell? ⟨g, 1, none⟩ = some c1 ∧ w.cell? ⟨g, 2, none⟩ = some c2 ∧ w.cell? ⟨g, 3, none⟩ = some c3 ∧ w.cell? ⟨g, 4, none⟩ = some c4 := ⟨h.cell 0 rfl, h.cell 1 rfl, h.cell 2 rfl, h.cell 3 rfl, h.cell 4 rfl⟩

/-- Two steps of the world, the second one's bound at least the first one's. -/
theorem below2 {w w1 w2 : World} (h : Below w.heap.size w w1) (k : Below w1.heap.size w1 w2) : Below w.heap.size w w2 := h.trans (k.mono h.size)
theorem bcell {W w1 : World} (hb : Below W.heap.size W w1) : (∀ b o, b < W.heap.size → w1.cell? ⟨b, o, none⟩ = W.cell? ⟨b, o, none⟩) ∧ (∀ b o, b < W.heap.size → w1.frozen? ⟨b, o, none⟩ = W.frozen? ⟨b, o, none⟩) :=
  ⟨fun b o h => hb.cell (p := ⟨b, o, none⟩) h, fun b o h => hb.frozen (p := ⟨b, o, none⟩) h⟩
theorem below_drewN {B : Nat} {a w : World} (h : Below B a w) : ∀ q, Below B a (w.drewN q)
  | 0 => h
  | q + 1 => (below_drewN h q).drew

theorem beq_ff {a b : Int} (h : a ≠ b) : (a == b) = false := beq_eq_false_iff_ne.2 h
theorem beq_tt {a b : Int} (h : a = b) : (a == b) = true := beq_iff_eq.2 h
theorem bne_ff {a b : Int} (h : a = b) : (a != b) = false := by simp [h]
theorem bne_tt {a b : Int} (h : a ≠ b) : (a != b) = true := by simp [h]
theorem below_a1 (w : World) (o : Obj) : Below w.heap.size w (w.alloc o) := (Below.refl _ _).alloc (Nat.le_refl _) o
theorem below_a2 (w : World) (o o' : Obj) : Below w.heap.size w ((w.alloc o).alloc o') := (below_a1 w o).alloc (by simp) o'
theorem below_a3 (w : World) (o o' o'' : Obj) : Below w.heap.size w (((w.alloc o).alloc o').alloc o'') := (below_a2 w o o').alloc (by simp; omega) o''
theorem foldl_snoc {α β : Type} (f : β → α → β) (z : β) (xs : List α) (k : Nat) (x : α) (h : xs[k]? = some x) : (xs.take (k + 1)).foldl f z = f ((xs.take k).foldl f z) x := by
  rw [List.take_add_one, h]; simp
theorem foldl_max_le {α : Type} (f : α → Nat) (B : Nat) (xs : List α) (h : ∀ x ∈ xs, f x ≤ B) : ∀ z, z ≤ B → xs.foldl (fun n x => max n (f x)) z ≤ B := by
  induction xs with
  | nil => intro z hz; exact hz
  | cons a l ih =>
    intro z hz
    simp only [List.foldl_cons]
    exact ih (fun x hx => h x (List.mem_cons_of_mem _ hx)) _ (by have := h a List.mem_cons_self; omega)

end Go.Mu
