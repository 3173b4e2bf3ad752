/- Own words: append(nil, names...); no program in sight. Own words: append(own, more...) of a whole slice; no program in sight. -/
import Derived.Test.YtgcbkecpplhknaaDoorOwn
import Derived.Laws.AppendOwnNone
import Derived.Laws.OwnMore
set_option linter.unusedVariables false
namespace Go.Mu
open Go.RowKit

theorem run_append_nil_nil {P : Program} {w : World} (t ty e : TypeId) (i : TypeInfo) (c : Nat) (ht : P.underlying t = some (.slice e)) (hi : P.info? e = some i) :
    (Builtin.append_ #[t, t] ty #[.slice none 0 0, .slice none 0 c]).run P w = .ok (.slice none 0 0) w := by
  simp [Builtin.append_, run_underlying ht, sizeOf, typeInfo, hi, Builtin.lenOf, Builtin.firstCells]

theorem flat_single (l : List ByteArray) : (l.map fun y => [Value.string y]).flatten = l.map Value.string := by
  induction l with
  | nil => rfl
  | cons y l ih => rw [List.map_cons, List.flatten_cons, ih]; rfl
/-- append(nil, names...) of names that lie anywhere. -/
theorem wpList_append_names {P : Program} {w : World} {ops : Array Oper} {rest : List Oper} {o : Oper} {a : Act} {Q : Exit → Act → World → Prop} (hgd : o.guard = none) (s x : Operand) (t : TypeId)
    (ho : o.op = .call { callee := .builtin .append, args := #[s, x], argTypes := #[t, t] })
    (base : Nat) (e : TypeId) (i : TypeInfo) (z : Value) (bytes : Nat) (ht : P.underlying t = some (.slice e)) (hi : P.info? e = some i) (hz : i.zero = some z)
    (hsize : i.size = 1) (hby : i.bytes = bytes) (hzs : z.cells.size = 1) (hs : a.eval s = .slice none 0 0)
    (ns : List ByteArray) (S : Blocks) (A : Option Addr) (c : Nat) (hx : a.eval x = .slice A ns.length c) (hsl : SliceR (rStr.R w S) 1 w S ns (.slice A ns.length c))
    (h63 : ns.length ≤ maxLen) (hbytes : ns.length * bytes ≤ 140737488355328) (hbase : base ≤ w.heap.size)
    (h : ∀ v' w', OwnL rStr e base w' ns v' → w.grownBy w' none → wpList P ops Q rest (a.put o.dst v') w') : wpList P ops Q (o :: rest) a w := by
  have hgen : ∀ ad : Addr, A = some ad → wpList P ops Q (o :: rest) a w := fun ad hA => by
    subst hA
    have hall : ∀ y ∈ ns, y.size ≤ strMax := fun y hy => by
      obtain ⟨j, hj, rfl⟩ := List.mem_iff_getElem.1 hy
      obtain ⟨b, o', y, cs, _, _, _, hy2, hR, _⟩ := hsl.at1 j hj
      rw [List.getElem?_eq_getElem hj] at hy2
      injection hy2 with hy2
      rw [hy2]; exact hR.2
    refine wpList_append_own_at w hgd s x t ho base e i z 1 bytes ht hi hz hsize hby hzs (by decide) (.slice none 0 0) 0 [] hs (World.ownsRow_nil w base e 1) ad ns.length c (ns.map Value.string) hx (by simp) (fun j u hu => ?_) (fun u hu => by obtain ⟨y, _, rfl⟩ := List.mem_map.1 hu; rfl) (by omega) (by simpa using hbytes) hbase (fun v' w' hown hgrow _ _ => ?_)
    · rw [List.getElem?_map] at hu
      cases hn : ns[j]? with
      | none => rw [hn] at hu; cases hu
      | some y =>
        rw [hn] at hu
        injection hu with hu
        subst hu
        obtain ⟨b, o', y', cs, hA, _, _, hy2, hR, hc⟩ := hsl.at1 j (List.getElem?_eq_some_iff.1 hn).1
        injection hA with hA
        subst hA
        rw [hn] at hy2
        injection hy2 with hy2
        subst hy2
        obtain ⟨rfl, _⟩ := hR
        rw [addr_at]
        simpa using hc 0 _ rfl
    · refine h v' w' ⟨ns.map fun y => [.string y], by simp, fun j y cs hy hc => ?_, ?_⟩ hgrow
      · rw [List.getElem?_map, hy] at hc
        injection hc with hc
        subst hc
        exact ⟨rfl, hall y (List.mem_of_getElem? hy)⟩
      · have he : (ns.map fun y => [Value.string y]).flatten = [] ++ ns.map Value.string := by
          rw [flat_single]; rfl
        rw [he]
        have h0 : 0 + ns.length = ns.length := by omega
        rw [h0] at hown
        exact hown
  cases A with
  | some ad => exact hgen ad rfl
  | none =>
    have h0 : ns = [] := by
      obtain ⟨A', c', he, _, _, h3⟩ := hsl
      injection he with he _ _
      subst he
      by_cases hn : ns = []
      · exact hn
      · obtain ⟨b, o', h4, _⟩ := h3 hn
        cases h4
    subst h0
    refine wpList_plain hgd fun K hK => ?_
    have hrun := run_append_nil_nil (P := P) (w := w) t o.type e i c ht hi
    unfold Oper.wp
    simp [execOp, ho, resolve, invoke, builtin, hs, hx, hrun, Result.andThen]
    exact hK _ _ (h _ _ (OwnL.nil rStr e base w) ⟨rfl, rfl, rfl, Nat.le_refl _, fun _ _ _ => rfl⟩)
end Go.Mu

namespace Go.Mu
open Go.RowKit

theorem choose_list {α β : Type} : ∀ (l : List α) (P : Nat → α → β → Prop), (∀ j x, l[j]? = some x → ∃ b, P j x b) → ∃ ds : List β, ds.length = l.length ∧ ∀ j x b, l[j]? = some x → ds[j]? = some b → P j x b
  | [], P, _ => ⟨[], rfl, fun j x b h => by simp at h⟩
  | y :: l, P, h => by
    obtain ⟨d, hd⟩ := h 0 y rfl
    obtain ⟨ds, h1, h2⟩ := choose_list l (fun j => P (j + 1)) (fun j x hx => h (j + 1) x (by simpa using hx))
    refine ⟨d :: ds, by simp [h1], fun j x b hx hb => ?_⟩
    cases j with
    | zero => simp at hx hb; subst hx hb; exact hd
    | succ j => exact h2 j x b (by simpa using hx) (by simpa using hb)
theorem CellsAt.append {w : World} {b o : Nat} {cs ds : List Value} (h : CellsAt w b o cs) (h2 : CellsAt w b (o + cs.length) ds) : CellsAt w b o (cs ++ ds) := fun i u hu => by
  rcases Nat.lt_or_ge i cs.length with hi | hi
  · rw [List.getElem?_append_left hi] at hu; exact h i u hu
  · rw [List.getElem?_append_right hi] at hu
    have := h2 _ u hu
    rwa [show o + cs.length + (i - cs.length) = o + i by omega] at this
theorem CellsAt.flatten {w : World} {b sz : Nat} : ∀ (ds : List (List Value)) (o : Nat), (∀ d ∈ ds, d.length = sz) → (∀ j d, ds[j]? = some d → CellsAt w b (o + j * sz) d) → CellsAt w b o ds.flatten
  | [], o, _, _ => fun i u hu => by simp at hu
  | d :: ds, o, h1, h2 => by
    rw [List.flatten_cons]
    refine CellsAt.append (by have := h2 0 d rfl; simpa using this) (CellsAt.flatten ds _ (fun e he => h1 e (List.mem_cons_of_mem _ he)) fun j e he => ?_)
    have h3 := h2 (j + 1) e (by simpa using he)
    rw [h1 d (List.mem_cons_self ..), Nat.add_assoc, show sz + j * sz = (j + 1) * sz by rw [Nat.add_mul]; omega]
    exact h3

section
variable {P : Program} {α : Type}
theorem run_append_own_nil {w : World} (base : Nat) (t ty e : TypeId) (i : TypeInfo) (size c : Nat) (ht : P.underlying t = some (.slice e)) (hi : P.info? e = some i)
    (v : Value) (n : Nat) (xs : List Value) (hown : w.ownsRow base e size v n xs) :
    (Builtin.append_ #[t, t] ty #[v, .slice none 0 c]).run P w = .ok v w := by
  rcases hown.2 with ⟨rfl, rfl⟩ | ⟨g, cap, cur, rfl, _, _, hnc, _⟩
  · simp [Builtin.append_, run_underlying ht, sizeOf, typeInfo, hi, Builtin.lenOf, Builtin.firstCells]
  · simp [Builtin.append_, run_underlying ht, sizeOf, typeInfo, hi, Builtin.lenOf, Builtin.firstCells, hnc, storeCells]

/-- append(own, more...): more lies anywhere; memory has no part in the elements. -/
theorem wpList_append_all {w : World} {ops : Array Oper} {rest : List Oper} {o : Oper} {a : Act} {Q : Exit → Act → World → Prop} (r : Rep α) (hr : Flat r) (hgd : o.guard = none) (s x : Operand) (t : TypeId)
    (ho : o.op = .call { callee := .builtin .append, args := #[s, x], argTypes := #[t, t] })
    (base : Nat) (e : TypeId) (i : TypeInfo) (z : Value) (bytes : Nat) (ht : P.underlying t = some (.slice e)) (hi : P.info? e = some i) (hz : i.zero = some z)
    (hsize : i.size = r.sz) (hby : i.bytes = bytes) (hzs : z.cells.size = r.sz) (hsz : 0 < r.sz)
    (v : Value) (xs : List α) (hs : a.eval s = v) (hown : OwnL r e base w xs v)
    (ys : List α) (S : Blocks) (A : Option Addr) (c : Nat) (hx : a.eval x = .slice A ys.length c) (hsl : SliceR (r.R w S) r.sz w S ys (.slice A ys.length c))
    (h63 : xs.length + ys.length ≤ maxLen) (hbytes : (xs.length + ys.length) * bytes ≤ 140737488355328) (hbase : base ≤ w.heap.size)
    (h : ∀ v' w', OwnL r e base w' (xs ++ ys) v' → w.grownBy w' v.ownBlock → (v'.ownBlock = v.ownBlock ∨ v'.ownBlock = some w.heap.size) → wpList P ops Q rest (a.put o.dst v') w') : wpList P ops Q (o :: rest) a w := by
  obtain ⟨css, hlen, hR, hrow⟩ := id hown
  cases A with
  | some ad =>
    obtain ⟨ds, hdl, hd⟩ := choose_list ys (fun j y cs => r.R w S y cs ∧ ∀ i u, cs[i]? = some u → w.cell? (ad.add (j * r.sz + i)) = some u) (fun j y hy => by
      obtain ⟨b, o', y', cs, hA, _, _, hy2, hRy, hc⟩ := hsl.at j (List.getElem?_eq_some_iff.1 hy).1
      injection hA with hA
      subst hA
      rw [hy] at hy2
      injection hy2 with hy2
      subst hy2
      refine ⟨cs, hRy, fun i u hu => ?_⟩
      rw [addr_at, ← Nat.add_assoc]
      exact hc i u hu)
    have hdz : ∀ d ∈ ds, d.length = r.sz := fun d hm => by
      obtain ⟨j, hj, rfl⟩ := List.mem_iff_getElem.1 hm
      exact r.len (hd j _ _ (List.getElem?_eq_getElem (by omega)) (List.getElem?_eq_getElem hj)).1
    have hfl : ∀ (es : List (List Value)), (∀ d ∈ es, d.length = r.sz) → es.flatten.length = es.length * r.sz := by
      intro es
      induction es with
      | nil => intro _; simp
      | cons d es ih => intro hh; rw [List.flatten_cons, List.length_append, ih (fun d hd => hh d (List.mem_cons_of_mem _ hd)), hh d (List.mem_cons_self ..), List.length_cons, Nat.add_mul]; omega
    refine wpList_append_own_at w hgd s x t ho base e i z r.sz bytes ht hi hz hsize hby hzs hsz v xs.length css.flatten hs hrow ad ys.length c ds.flatten hx (by rw [hfl ds hdz, hdl]) (fun j u hu => ?_) (fun u hu => ?_) h63 hbytes hbase (fun v' w' hown' hgrow _ hat => h v' w' ⟨css ++ ds, by simp [hlen, hdl], ?_, by simpa using hown'⟩ hgrow hat)
    · rcases Nat.eq_zero_or_pos ys.length with h0 | h0
      · have : ds = [] := List.eq_nil_of_length_eq_zero (by omega)
        subst this
        simp at hu
      · obtain ⟨b, o', y, cs, hA, _⟩ := hsl.at 0 h0
        injection hA with hA
        subst hA
        have hca : CellsAt w b o' ds.flatten := CellsAt.flatten ds o' hdz fun k d hk i u hu => by
          have hk2 := (List.getElem?_eq_some_iff.1 hk).1
          have h1 := (hd k _ d (List.getElem?_eq_getElem (by omega)) hk).2 i u hu
          rw [addr_at, ← Nat.add_assoc] at h1
          exact h1
        rw [addr_at]
        exact hca j u hu
    · obtain ⟨d, hdm, hud⟩ := List.mem_flatten.1 hu
      obtain ⟨j, hj, rfl⟩ := List.mem_iff_getElem.1 hdm
      exact r.one (hd j _ _ (List.getElem?_eq_getElem (by omega)) (List.getElem?_eq_getElem hj)).1 u hud
    · intro j y cs hy hc
      rcases Nat.lt_or_ge j xs.length with hj | hj
      · rw [List.getElem?_append_left hj] at hy
        rw [List.getElem?_append_left (by omega)] at hc
        exact hr _ _ _ _ _ _ (hR j y cs hy hc)
      · rw [List.getElem?_append_right hj] at hy
        rw [List.getElem?_append_right (by omega), hlen] at hc
        exact hr _ _ _ _ _ _ (hd _ y cs hy hc).1
  | none =>
    have h0 : ys = [] := by
      obtain ⟨A', c', he, _, _, h3⟩ := hsl
      injection he with he _ _
      subst he
      by_cases hn : ys = []
      · exact hn
      · obtain ⟨b, o', h4, _⟩ := h3 hn
        cases h4
    subst h0
    refine wpList_plain hgd fun K hK => ?_
    have hrun := run_append_own_nil (P := P) (w := w) base t o.type e i r.sz c ht hi v xs.length css.flatten hrow
    unfold Oper.wp
    simp only [List.length_nil] at hx
    simp [execOp, ho, resolve, invoke, builtin, hs, hx, hrun, Result.andThen]
    exact hK _ _ (h _ _ (by rw [List.append_nil]; exact hown) ⟨rfl, rfl, rfl, Nat.le_refl _, fun _ _ _ => rfl⟩ (.inl rfl))
end
end Go.Mu
