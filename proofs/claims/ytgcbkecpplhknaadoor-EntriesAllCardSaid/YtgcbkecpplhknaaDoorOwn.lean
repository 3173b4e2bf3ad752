/- Own words: slices that a call made itself; no program in sight. -/
import Derived.Test.YtgcbkecpplhknaaDoorMu
import Derived.Maps.AppendAt
import Derived.Laws.AppendOwn
import Derived.Deep.AppendLies
set_option linter.unusedVariables false
namespace Go.Mu
open Go.RowKit

theorem addr_at (b o j : Nat) : (⟨b, o, none⟩ : Addr).add j = ⟨b, o + j, none⟩ := by
  unfold Addr.add; split <;> simp_all
/-- A slice of the call's own that reads as xs; what its elements lead to lies in other blocks. -/
def OwnL {α : Type} (r : Rep α) (e : TypeId) (base : Nat) (w : World) (xs : List α) (v : Value) : Prop :=
  ∃ css : List (List Value), css.length = xs.length ∧ (∀ (j : Nat) (x : α) (cs : List Value), xs[j]? = some x → css[j]? = some cs → r.R w (fun b => some b ≠ v.ownBlock) x cs) ∧ w.ownsRow base e r.sz v xs.length css.flatten

theorem OwnL.nil {α : Type} (r : Rep α) (e : TypeId) (base : Nat) (w : World) : OwnL r e base w [] (.slice none 0 0) :=
  ⟨[], rfl, fun j x cs h => by simp at h, World.ownsRow_nil w base e r.sz⟩

theorem flatten_at {α : Type} {sz : Nat} : ∀ {css : List (List α)} (h : ∀ c ∈ css, c.length = sz) (j i : Nat) (cs : List α) (u : α), css[j]? = some cs → cs[i]? = some u → css.flatten[j * sz + i]? = some u
  | [], _, j, i, cs, u, hj, _ => by simp at hj
  | c :: css, h, j, i, cs, u, hj, hi => by
    have hc : c.length = sz := h c List.mem_cons_self
    cases j with
    | zero =>
      simp at hj; subst hj
      rw [List.flatten_cons, List.getElem?_append_left (by have := (List.getElem?_eq_some_iff.1 hi).1; omega)]
      simpa using hi
    | succ j =>
      simp at hj
      rw [List.flatten_cons, List.getElem?_append_right (by rw [hc, Nat.add_mul]; omega)]
      have := flatten_at (fun c hc => h c (List.mem_cons_of_mem _ hc)) j i cs u hj hi
      rw [show (j + 1) * sz + i - c.length = j * sz + i by rw [hc, Nat.add_mul]; omega]
      exact this

theorem OwnL.form {α : Type} {r : Rep α} {e : TypeId} {base : Nat} {w : World} {xs : List α} {v : Value} (h : OwnL r e base w xs v) : ∃ A c, v = .slice A xs.length c := by
  obtain ⟨css, _, _, hown⟩ := h
  rcases hown.2 with ⟨rfl, h0⟩ | ⟨g, cap, cur, rfl, _⟩
  · exact ⟨none, 0, by rw [h0]⟩
  · exact ⟨_, _, rfl⟩

/-- What a slice of the call's own reads as. -/
theorem OwnL.slice {α : Type} {r : Rep α} {e : TypeId} {base : Nat} {w : World} {xs : List α} {v : Value} (h : OwnL r e base w xs v) (hl : xs.length ≤ strMax) :
    SliceR (r.R w (fun _ => True)) r.sz w (fun _ => True) xs v := by
  obtain ⟨css, hlen, hR, hown⟩ := h
  have hall : ∀ c ∈ css, c.length = r.sz := fun c hc => by
    obtain ⟨j, hj, rfl⟩ := List.mem_iff_getElem.1 hc
    exact r.len (hR j _ _ (List.getElem?_eq_getElem (by omega)) (List.getElem?_eq_getElem hj))
  rcases hown.2 with ⟨rfl, h0⟩ | ⟨g, cap, cur, rfl, hbg, hg, hnc, hcm, hcs, htake⟩
  · have : xs = [] := List.eq_nil_of_length_eq_zero h0
    subst this
    exact ⟨none, 0, rfl, Nat.le_refl _, capOk_nil, fun h => absurd rfl h⟩
  · refine ⟨_, cap, rfl, hnc, ⟨hl, hcm⟩, fun hne => ⟨g, 0, rfl, trivial, (Array.getElem?_eq_some_iff.1 hg).1, fun j x hx => ?_⟩⟩
    have hj : j < css.length := by rw [hlen]; exact (List.getElem?_eq_some_iff.1 hx).1
    refine ⟨css[j], r.mono (hR j x _ hx (List.getElem?_eq_getElem hj)) (fun _ _ => trivial), fun i u hu => ?_⟩
    have h1 := flatten_at hall j i _ u (List.getElem?_eq_getElem hj) hu
    have h2 := hown.cells (g := g) rfl (j * r.sz + i) u h1
    rw [addr_at, ← Nat.add_assoc] at h2
    exact h2

theorem OwnL.more {α : Type} {r : Rep α} {e : TypeId} {base : Nat} {w w' : World} {xs : List α} {v : Value} (h : OwnL r e base w xs v) (hb : Below w.heap.size w w') : OwnL r e base w' xs v := by
  obtain ⟨css, hlen, hR, hown⟩ := h
  have hg : w.grownBy w' none := ⟨hb.os, hb.tape, hb.output, hb.size, fun k hk _ => hb.block k hk⟩
  refine ⟨css, hlen, fun j x cs hx hc => Rep.step (hR j x cs hx hc) (fun b hs hlt => ⟨hb.block b hlt, hs⟩), ?_⟩
  refine hown.kept hg ?_
  cases hv : v.ownBlock with
  | none => exact .inl rfl
  | some k => right; simp
theorem OwnL.alloc {α : Type} {r : Rep α} {e : TypeId} {base : Nat} {w : World} {xs : List α} {v : Value} (h : OwnL r e base w xs v) (o : Obj) : OwnL r e base (w.alloc o) xs v := h.more (below_a1 w o)
theorem OwnL.lt {α : Type} {r : Rep α} {e : TypeId} {base : Nat} {w : World} {xs : List α} {v : Value} (h : OwnL r e base w xs v) : ∀ k, v.ownBlock = some k → base ≤ k ∧ k < w.heap.size := by
  obtain ⟨css, _, _, hown⟩ := h
  exact hown.lt
/-- A store into a block that is not the slice's, and to which no element leads. -/
theorem OwnL.kept {α : Type} {r : Rep α} {e : TypeId} {base : Nat} {w w' : World} {xs : List α} {v : Value} {g : Nat} (h : OwnL r e base w xs v) (hg : w.grownBy w' (some g)) (hne : v.ownBlock ≠ some g)
    (hin : ∀ (j : Nat) (x : α) (cs : List Value), xs[j]? = some x → r.R w (fun b => some b ≠ v.ownBlock) x cs → r.R w (fun b => some b ≠ v.ownBlock ∧ b ≠ g) x cs) : OwnL r e base w' xs v := by
  obtain ⟨css, hlen, hR, hown⟩ := h
  refine ⟨css, hlen, fun j x cs hx hc => Rep.step (hin j x cs hx (hR j x cs hx hc)) (fun b hs hlt => ⟨hg.block b hlt (by simpa using hs.2), hs.1⟩), ?_⟩
  refine hown.kept hg ?_
  right; exact fun h => hne (by rw [h])

/-- What an append of one element leaves. -/
theorem OwnL.appended {α : Type} {r : Rep α} {e : TypeId} {base : Nat} {w w' : World} {xs : List α} {v v' : Value} (hown : OwnL r e base w xs v) (y : α) (cs : List Value) (hy : r.R w (fun b => some b ≠ v.ownBlock) y cs)
    (hg : w.grownBy w' v.ownBlock) (hat : v'.ownBlock = v.ownBlock ∨ v'.ownBlock = some w.heap.size)
    (hrow : ∀ css : List (List Value), css.length = xs.length → w.ownsRow base e r.sz v xs.length css.flatten → w'.ownsRow base e r.sz v' (xs.length + 1) (css.flatten ++ cs)) : OwnL r e base w' (xs ++ [y]) v' := by
  obtain ⟨css, hlen, hR, hrow0⟩ := hown
  have hlt : ∀ k, v.ownBlock = some k → k < w.heap.size := fun k hk => (hrow0.lt k hk).2
  have step : ∀ (q : α) (c : List Value), r.R w (fun b => some b ≠ v.ownBlock) q c → r.R w' (fun b => some b ≠ v'.ownBlock) q c := fun q c hq => by
    refine Rep.step hq (fun b hb hbl => ⟨hg.block b hbl hb, ?_⟩)
    rcases hat with hat | hat
    · rw [hat]; exact hb
    · rw [hat]; intro he; injection he with he; omega
  refine ⟨css ++ [cs], by simp [hlen], fun j q c hq hc => ?_, by simpa using hrow css hlen hrow0⟩
  rcases Nat.lt_or_ge j xs.length with hj | hj
  · rw [List.getElem?_append_left hj] at hq
    rw [List.getElem?_append_left (by omega)] at hc
    exact step q c (hR j q c hq hc)
  · have hj2 : j = xs.length := by
      have := (List.getElem?_eq_some_iff.1 hq).1
      simp at this; omega
    subst hj2
    rw [List.getElem?_append_right (Nat.le_refl _)] at hq
    rw [List.getElem?_append_right (by omega)] at hc
    simp at hq hc
    rw [show xs.length - css.length = 0 by omega] at hc
    simp at hc
    subst hq hc
    exact step _ _ hy

section
variable {P : Program} {α : Type}

/-- append(out, x) of one element, onto a slice of the call's own: the element lies in a block of its own first. -/
theorem wpList_append_L {w w1 : World} {ops : Array Oper} {rest : List Oper} {o : Oper} {a : Act} {Q : Exit → Act → World → Prop} (r : Rep α) (hgd : o.guard = none) (s x : Operand) (t : TypeId)
    (ho : o.op = .call { callee := .builtin .append, args := #[s, x], argTypes := #[t, t] })
    (base : Nat) (e : TypeId) (i : TypeInfo) (z : Value) (bytes : Nat) (ht : P.underlying t = some (.slice e)) (hi : P.info? e = some i) (hz : i.zero = some z)
    (hsize : i.size = r.sz) (hby : i.bytes = bytes) (hzs : z.cells.size = r.sz) (hsz : 0 < r.sz)
    (v : Value) (xs : List α) (hs : a.eval s = v) (hown : OwnL r e base w xs v)
    (y : α) (cs : List Value) (hy : r.R w (fun b => some b ≠ v.ownBlock) y cs)
    (hx : a.eval x = .slice (some ⟨w.heap.size, 0, none⟩) 1 1) (hw1 : ∀ j u, cs[j]? = some u → w1.cell? ⟨w.heap.size, j, none⟩ = some u) (hw2 : Below w.heap.size w w1)
    (h63 : xs.length + 1 ≤ maxLen) (hbytes : (xs.length + 1) * bytes ≤ 140737488355328) (hbase : base ≤ w.heap.size)
    (h : ∀ v' w', OwnL r e base w' (xs ++ [y]) v' → w1.grownBy w' v.ownBlock → v'.ownBlock ≠ none → (v'.ownBlock = v.ownBlock ∨ v'.ownBlock = some w1.heap.size) → wpList P ops Q rest (a.put o.dst v') w') :
    wpList P ops Q (o :: rest) a w1 := by
  have hown1 := hown.more hw2
  have hy1 := Rep.step (w' := w1) hy (fun b hb hlt => ⟨hw2.block b hlt, hb⟩)
  obtain ⟨css, hlen, hR, hrow1⟩ := id hown1
  have hcl := r.len hy
  refine wpList_append_own_at w1 hgd s x t ho base e i z r.sz bytes ht hi hz hsize hby hzs hsz v xs.length css.flatten hs hrow1 ⟨w.heap.size, 0, none⟩ 1 1 cs hx (by omega)
    (fun j u hu => by rw [addr_at, Nat.zero_add]; exact hw1 j u hu) (r.one hy) h63 hbytes (Nat.le_trans hbase hw2.size) (fun v' w' hown' hgrow hnil hat => ?_)
  refine h v' w' ⟨css ++ [cs], by simp [hlen], ?_, by simpa using hown'⟩ hgrow ?_ hat
  · have hlt : ∀ k, v.ownBlock = some k → k < w1.heap.size := fun k hk => (hrow1.lt k hk).2
    have step : ∀ (q : α) (c : List Value), r.R w1 (fun b => some b ≠ v.ownBlock) q c → r.R w' (fun b => some b ≠ v'.ownBlock) q c := fun q c hq => by
      refine Rep.step hq (fun b hb hbl => ⟨hgrow.block b hbl hb, ?_⟩)
      rcases hat with hat | hat
      · rw [hat]; exact hb
      · rw [hat]; intro he; injection he with he; omega
    intro j q c hq hc
    rcases Nat.lt_or_ge j xs.length with hj | hj
    · rw [List.getElem?_append_left hj] at hq
      rw [List.getElem?_append_left (by omega)] at hc
      exact step q c (hR j q c hq hc)
    · have hj2 : j = xs.length := by
        have := (List.getElem?_eq_some_iff.1 hq).1
        simp at this; omega
      subst hj2
      rw [List.getElem?_append_right (Nat.le_refl _)] at hq
      rw [List.getElem?_append_right (by omega)] at hc
      simp at hq hc
      rw [show xs.length - css.length = 0 by omega] at hc
      simp at hc
      subst hq hc
      exact step _ _ hy1
  · intro hn
    rcases hown'.2 with ⟨hv, h0⟩ | ⟨g, cap, cur, hv, _⟩
    · omega
    · rw [hv] at hn; simp [Value.ownBlock] at hn

/-- The same at a step of a region that draws its order. -/
theorem step_append_L {ops : Array Oper} {o : Oper} {a : Act} {w : World} {K : Act → World → Prop} {Q : Exit → Act → World → Prop} {E : Prop} (r : Rep α) (hgd : o.guard = none) (s x : Operand) (t : TypeId)
    (ho : o.op = .call { callee := .builtin .append, args := #[s, x], argTypes := #[t, t] })
    (base : Nat) (e : TypeId) (i : TypeInfo) (z : Value) (bytes : Nat) (ht : P.underlying t = some (.slice e)) (hi : P.info? e = some i) (hz : i.zero = some z)
    (hsize : i.size = r.sz) (hby : i.bytes = bytes) (hzs : z.cells.size = r.sz) (hsz : 0 < r.sz)
    (v : Value) (xs : List α) (n : Nat) (hn : xs.length = n) (hs : a.eval s = v) (hown : OwnL r e base w xs v)
    (y : α) (cs : List Value) (hy : r.R w (fun b => some b ≠ v.ownBlock) y cs)
    (ad : Addr) (c : Nat) (hx : a.eval x = .slice (some ad) 1 c) (hnews : ∀ j u, cs[j]? = some u → w.cell? (ad.add j) = some u)
    (h63 : n + 1 ≤ maxLen) (hbytes : (n + 1) * bytes ≤ 140737488355328) (hbase : base ≤ w.heap.size) (H : Nat) (hH : w.heap.size = H)
    (h : ∀ g cap w', OwnL r e base w' (xs ++ [y]) (.slice (some ⟨g, 0, none⟩) (n + 1) cap) → w.grownBy w' v.ownBlock → (v.ownBlock = some g ∨ g = H) → g < w'.heap.size → K (a.put o.dst (.slice (some ⟨g, 0, none⟩) (n + 1) cap)) w') :
    if Region.wanted o (yielded ops a.tmps) = true then Oper.wp P o a w K Q else E := by
  subst hn
  obtain ⟨css, hlen, hR, hrow⟩ := id hown
  have hcl := r.len hy
  refine step_append_lies w hgd s x t ho base e i z r.sz bytes ht hi hz hsize hby hzs hsz v xs.length css.flatten hs hrow ad 1 c cs hx (by omega) hnews (r.one hy) Nat.one_pos h63 hbytes hbase H hH (fun g cap w' hown' hgrow hat hlt => ?_)
  have hat' : (Value.slice (some ⟨g, 0, none⟩) (xs.length + 1) cap).ownBlock = v.ownBlock ∨ (Value.slice (some ⟨g, 0, none⟩) (xs.length + 1) cap).ownBlock = some w.heap.size := by
    rcases hat with hat | hat
    · left; rw [hat]; rfl
    · right; rw [hat, hH]; rfl
  refine h g cap w' ⟨css ++ [cs], by simp [hlen], ?_, by simpa using hown'⟩ hgrow hat hlt
  have step : ∀ (q : α) (c : List Value), r.R w (fun b => some b ≠ v.ownBlock) q c → r.R w' (fun b => some b ≠ (Value.slice (some ⟨g, 0, none⟩) (xs.length + 1) cap).ownBlock) q c := fun q c hq => by
    refine Rep.step hq (fun b hb hbl => ⟨hgrow.block b hbl hb, ?_⟩)
    rcases hat' with hat | hat
    · rw [hat]; exact hb
    · rw [hat]; intro he; injection he with he; omega
  intro j q c hq hc
  rcases Nat.lt_or_ge j xs.length with hj | hj
  · rw [List.getElem?_append_left hj] at hq
    rw [List.getElem?_append_left (by omega)] at hc
    exact step q c (hR j q c hq hc)
  · have hj2 : j = xs.length := by
      have := (List.getElem?_eq_some_iff.1 hq).1
      simp at this; omega
    subst hj2
    rw [List.getElem?_append_right (Nat.le_refl _)] at hq
    rw [List.getElem?_append_right (by omega)] at hc
    simp at hq hc
    rw [show xs.length - css.length = 0 by omega] at hc
    simp at hc
    subst hq hc
    exact step _ _ hy
end
theorem SliceR.cap {α : Type} {R : α → List Value → Prop} {sz : Nat} {w : World} {S : Blocks} {xs : List α} {A : Option Addr} {n c : Nat} (h : SliceR R sz w S xs (.slice A n c)) : n = xs.length ∧ xs.length ≤ c ∧ c ≤ 9223372036854775807 := by
  obtain ⟨A', c', he, h1, h2, h3⟩ := h
  injection he with he1 he2 he3
  subst he2 he3
  exact ⟨rfl, h1, h2.2⟩
theorem grownBy_setCell (w : World) (p : Addr) (u : Value) : w.grownBy (w.setCell p u) (some p.block) :=
  ⟨rfl, rfl, rfl, by simp, fun k _ hk => Below.heap_setCell w p u k (fun h => hk (by rw [h]))⟩
/-- What is said of it, memory has no part in. -/
def Flat {α : Type} (r : Rep α) : Prop := ∀ w w' S S' x cs, r.R w S x cs → r.R w' S' x cs
theorem flat_str : Flat rStr := fun _ _ _ _ _ _ h => h
theorem flat_bool : Flat rBool := fun _ _ _ _ _ _ h => h
theorem OwnL.far {α : Type} {r : Rep α} (hr : Flat r) {e : TypeId} {base : Nat} {w : World} {xs : List α} {v : Value} (h : OwnL r e base w xs v) (p : Addr) (u : Value) (hp : p.block < base) : OwnL r e base (w.setCell p u) xs v :=
  h.kept (grownBy_setCell w p u) (fun he => by have := (h.lt _ he).1; omega) (fun j x cs _ hx => hr _ _ _ _ _ _ hx)
theorem take_snoc_eq {α : Type} (l : List α) (k : Nat) (x : α) (h : l[k]? = some x) : l.take (k + 1) = l.take k ++ [x] := by rw [List.take_add_one, h]; rfl
theorem OwnL.cast {α : Type} {r : Rep α} {e : TypeId} {base : Nat} {w : World} {xs ys : List α} {v : Value} (h : OwnL r e base w xs v) (he : xs = ys) : OwnL r e base w ys v := he ▸ h
theorem OwnL.farNe {α : Type} {r : Rep α} (hr : Flat r) {e : TypeId} {base : Nat} {w : World} {xs : List α} {v : Value} (h : OwnL r e base w xs v) (p : Addr) (u : Value) (hp : v.ownBlock ≠ some p.block) : OwnL r e base (w.setCell p u) xs v :=
  h.kept (grownBy_setCell w p u) hp (fun j x cs _ hx => hr _ _ _ _ _ _ hx)
theorem below_res {B g : Nat} {w wr : World} (h : Below B w wr) (hg : B ≤ g) (u0 u1 u2 u3 u4 : Value) : Below B w (((((wr.setCell ⟨g, 0, none⟩ u0).setCell ⟨g, 1, none⟩ u1).setCell ⟨g, 2, none⟩ u2).setCell ⟨g, 3, none⟩ u3).setCell ⟨g, 4, none⟩ u4) :=
  ((((h.setCell (p := ⟨g, 0, none⟩) hg u0).setCell (p := ⟨g, 1, none⟩) hg u1).setCell (p := ⟨g, 2, none⟩) hg u2).setCell (p := ⟨g, 3, none⟩) hg u3).setCell (p := ⟨g, 4, none⟩) hg u4
theorem Blk.res {w : World} {b g : Nat} {t : TypeId} {cs : List Value} (h : Blk w b t cs) (hb : b ≠ g) (u0 u1 u2 u3 u4 : Value) : Blk (((((w.setCell ⟨g, 0, none⟩ u0).setCell ⟨g, 1, none⟩ u1).setCell ⟨g, 2, none⟩ u2).setCell ⟨g, 3, none⟩ u3).setCell ⟨g, 4, none⟩ u4) b t cs :=
  ((((h.far (p := ⟨g, 0, none⟩) hb u0).far (p := ⟨g, 1, none⟩) hb u1).far (p := ⟨g, 2, none⟩) hb u2).far (p := ⟨g, 3, none⟩) hb u3).far (p := ⟨g, 4, none⟩) hb u4
theorem OwnL.res {α : Type} {r : Rep α} (hr : Flat r) {e : TypeId} {base : Nat} {w : World} {xs : List α} {v : Value} (h : OwnL r e base w xs v) {g : Nat} (hp : v.ownBlock ≠ some g) (u0 u1 u2 u3 u4 : Value) : OwnL r e base (((((w.setCell ⟨g, 0, none⟩ u0).setCell ⟨g, 1, none⟩ u1).setCell ⟨g, 2, none⟩ u2).setCell ⟨g, 3, none⟩ u3).setCell ⟨g, 4, none⟩ u4) xs v :=
  ((((h.farNe hr ⟨g, 0, none⟩ u0 hp).farNe hr ⟨g, 1, none⟩ u1 hp).farNe hr ⟨g, 2, none⟩ u2 hp).farNe hr ⟨g, 3, none⟩ u3 hp).farNe hr ⟨g, 4, none⟩ u4 hp
/-- A block that is known whole reads as a slice. -/
theorem SliceR.ofBlk {α : Type} {r : Rep α} {w : World} {S : Blocks} {xs : List α} {g : Nat} {t : TypeId} (css : List (List Value)) (hl : css.length = xs.length)
    (hR : ∀ (j : Nat) (x : α) (cs : List Value), xs[j]? = some x → css[j]? = some cs → r.R w S x cs) (hb : Blk w g t css.flatten) (hS : S g) (hn : xs.length ≤ strMax) :
    SliceR (r.R w S) r.sz w S xs (.slice (some ⟨g, 0, none⟩) xs.length xs.length) := by
  refine ⟨_, _, rfl, Nat.le_refl _, capOk_of (Nat.le_refl _) hn, fun _ => ⟨g, 0, rfl, hS, hb.lt, fun j x hx => ?_⟩⟩
  have hj : j < css.length := by rw [hl]; exact (List.getElem?_eq_some_iff.1 hx).1
  refine ⟨css[j], hR j x _ hx (List.getElem?_eq_getElem hj), fun i u hu => ?_⟩
  have hall : ∀ c ∈ css, c.length = r.sz := fun c hc => by
    obtain ⟨q, hq, rfl⟩ := List.mem_iff_getElem.1 hc
    exact r.len (hR q _ _ (List.getElem?_eq_getElem (by omega)) (List.getElem?_eq_getElem hq))
  rw [Nat.zero_add]
  exact hb.cell _ (flatten_at hall j i _ u (List.getElem?_eq_getElem hj) hu)
theorem SliceR.mapR {α β : Type} {R : α → List Value → Prop} {R' : β → List Value → Prop} {sz : Nat} {w : World} {S : Blocks} {xs : List α} {v : Value} (f : α → β) (h : SliceR R sz w S xs v) (hR : ∀ x cs, R x cs → R' (f x) cs) : SliceR R' sz w S (xs.map f) v := by
  obtain ⟨A, c, rfl, h1, h2, h3⟩ := h
  refine ⟨A, c, by rw [List.length_map], by rw [List.length_map]; exact h1, by rw [List.length_map]; exact h2, fun hne => ?_⟩
  obtain ⟨b, o, rfl, hS, hb, hc⟩ := h3 (by rintro rfl; exact hne rfl)
  refine ⟨b, o, rfl, hS, hb, fun j x hx => ?_⟩
  rw [List.getElem?_map] at hx
  obtain ⟨y, hy, rfl⟩ := Option.map_eq_some_iff.1 hx
  obtain ⟨cs, hr, hcc⟩ := hc j y hy
  exact ⟨cs, hR _ _ hr, hcc⟩
theorem SliceR.cast {α : Type} {R : α → List Value → Prop} {sz : Nat} {w : World} {S : Blocks} {xs ys : List α} {v : Value} (h : SliceR R sz w S xs v) (he : xs = ys) : SliceR R sz w S ys v := he ▸ h
/-- A value of a text alone. -/
def rT : Rep ByteArray where
  sz := 5
  R := fun _ _ s cs => cs = [.int .i64 4, .int .i64 0, .string s, .slice none 0 0, .slice none 0 0] ∧ s.size ≤ strMax
  len := by rintro _ _ _ _ ⟨rfl, _⟩; rfl
  one := by rintro _ _ _ _ ⟨rfl, _⟩ u hu; simp at hu; rcases hu with rfl | rfl | rfl | rfl <;> rfl
  frame := fun h _ => h
  mono := fun h _ => h
  bound := fun h => h
theorem flat_T : Flat rT := fun _ _ _ _ _ _ h => h
/-- Of a slice, its beginning. -/
theorem SliceR.take {α : Type} {R : α → List Value → Prop} {sz : Nat} {w : World} {S : Blocks} {xs : List α} {A : Option Addr} {n c : Nat} (h : SliceR R sz w S xs (.slice A n c)) (i : Nat) (hi : i ≤ xs.length) : SliceR R sz w S (xs.take i) (.slice A i c) := by
  obtain ⟨A', c', he, h1, h2, h3⟩ := h
  injection he with he1 he2 he3
  subst he1 he3
  have hl : (xs.take i).length = i := by rw [List.length_take]; omega
  refine ⟨A, c, by rw [hl], by omega, ⟨by have := h2.1; omega, h2.2⟩, fun hne => ?_⟩
  obtain ⟨b, o, rfl, hS, hb, hc⟩ := h3 (by rintro rfl; simp at hne)
  refine ⟨b, o, rfl, hS, hb, fun j x hx => hc j x ?_⟩
  rw [List.getElem?_take] at hx
  split at hx
  · exact hx
  · cases hx
end Go.Mu
