/- Plain: from an argument's reading to where its values lie. No function of the program in sight. -/
import Derived.Test.YtgcbkecpplhknaaDoorMu
import Derived.OpenShut
import Derived.ChangeOld
import Derived.SizedLaws
set_option linter.unusedVariables false
namespace Go.Mu
open Go.RowKit

section
variable {H : Type} {enc : TypeId × Value → H} {P : Program} {w : World}

/-- Whatever reads at this type, by so much fuel, and is small enough, lies as R says. -/
def Opens {α : Type} (enc : TypeId × Value → H) (P : Program) (w : World) (n : Nat) (t : TypeId) (R : α → List Value → Prop) : Prop :=
  ∀ m, m ≤ n → ∀ (cs : List Value) (x : DataW H × List MemPlace), DataW.trod enc P w 0 (fun _ => true) true m t cs = some x → (∀ k ∈ x.1.weights P t, k ≤ reachBytes) → ∃ a, R a cs

theorem Opens.zero {α : Type} {t : TypeId} {R : α → List Value → Prop} : Opens enc P w 0 t R := fun m hm cs x h _ => by
  obtain rfl : m = 0 := by omega
  simp [DataW.trod] at h
theorem Opens.le {α : Type} {t : TypeId} {R : α → List Value → Prop} {n n' : Nat} (h : Opens enc P w n t R) (hn : n' ≤ n) : Opens enc P w n' t R := fun m hm => h m (Nat.le_trans hm hn)

theorem wf_bounds {k : IntKind} {n : Int} (h : (Lit.int k n).wf = true) : k.min ≤ n ∧ n ≤ k.max := by
  simpa [Lit.wf] using h

theorem opens_int {n : Nat} {t : TypeId} {k : IntKind} (ht : P.underlying t = some (.int k)) : Opens enc P w n t (fun (a : Int) cs => cs = [.int k a] ∧ (k.min ≤ a ∧ a ≤ k.max)) := fun m hm cs x h _ => by
  obtain ⟨a, rfl, _, hw⟩ := DataW.trod_int ht h
  exact ⟨a, rfl, wf_bounds hw⟩
theorem opens_bool {n : Nat} {t : TypeId} (ht : P.underlying t = some .bool) : Opens enc P w n t (fun (a : Bool) cs => cs = [.bool a]) := fun m hm cs x h _ => by
  obtain ⟨a, rfl, _⟩ := DataW.trod_bool ht h
  exact ⟨a, rfl⟩
theorem reach_le_strMax : reachBytes ≤ strMax := by decide
theorem opens_str {n : Nat} {t : TypeId} {S : Blocks} (ht : P.underlying t = some .string) : Opens enc P w n t (rStr.R w S) := fun m hm cs x h hw => by
  obtain ⟨s, rfl, rfl, _⟩ := DataW.trod_string ht h
  refine ⟨s, rfl, ?_⟩
  have h2 := hw s.data.toList.length (by simp [DataW.weights])
  have h3 : s.data.toList.length = s.size := rfl
  have h4 := reach_le_strMax
  omega

theorem weightsAll_mem {e : TypeId} : ∀ {l : List (DataW H)} {d : DataW H}, d ∈ l → ∀ k ∈ d.weights P e, k ∈ DataW.weightsAll P e l
  | a :: l, d, hd, k, hk => by
    simp only [DataW.weightsAll, List.mem_append]
    rcases List.mem_cons.1 hd with rfl | hd
    · exact .inl hk
    · exact .inr (weightsAll_mem hd k hk)

theorem exists_list {α : Type} {Q : Nat → α → Prop} : ∀ n, (∀ i, i < n → ∃ x, Q i x) → ∃ xs : List α, xs.length = n ∧ ∀ i x, xs[i]? = some x → Q i x
  | 0, _ => ⟨[], rfl, by simp⟩
  | n + 1, h => by
    obtain ⟨xs, hl, hx⟩ := exists_list n (fun i hi => h i (by omega))
    obtain ⟨y, hy⟩ := h n (by omega)
    refine ⟨xs ++ [y], by simp [hl], fun i x hi => ?_⟩
    by_cases hin : i < n
    · rw [List.getElem?_append_left (by omega)] at hi; exact hx i x hi
    · have hlt := (List.getElem?_eq_some_iff.1 hi).1
      simp [hl] at hlt
      obtain rfl : i = n := by omega
      rw [← hl, List.getElem?_append_right (Nat.le_refl _)] at hi
      simp at hi
      subst hi; exact hy

theorem addr_add (b o j : Nat) : (⟨b, o, none⟩ : Addr).add j = ⟨b, o + j, none⟩ := by
  unfold Addr.add; split <;> simp_all

theorem opens_slice {α : Type} {n sz : Nat} {t e : TypeId} {R : α → List Value → Prop} {S : Blocks} (hS : ∀ b, b < w.heap.size → S b) (ht : P.underlying t = some (.slice e)) (hb : 1 ≤ P.bytesOf e) (hsz : P.cellsOf e = sz) (hpos : 0 < sz)
    (he : Opens enc P w n e R) : Opens enc P w (n + 1) t (fun (xs : List α) cs => ∃ v, cs = [v] ∧ SliceR R sz w S xs v) := fun m hm cs x h hw => by
  rcases DataW.trod_slice ht h with ⟨rfl, _⟩ | ⟨a, len, cap, elems, rest, m', rfl, rfl, rfl, _, hlc, _, hel, helem, hrest, _⟩
  · exact ⟨[], _, rfl, none, 0, rfl, Nat.le_refl _, capOk_nil, fun h => absurd rfl h⟩
  · obtain ⟨hrl, _⟩ := hrest rfl
    have hcap : cap ≤ strMax := by
      have h1 := hw ((elems.length + rest.length) * P.bytesOf e) (by simp [DataW.weights, ht])
      have h2 : elems.length + rest.length = cap := by omega
      rw [h2] at h1
      have h3 : cap ≤ cap * P.bytesOf e := Nat.le_mul_of_pos_right _ hb
      have h4 := reach_le_strMax
      omega
    have hget : ∀ i, i < len → ∃ ci y, elems[i]? = some y ∧ w.cells? 0 (a.add (i * sz)) sz = some ci ∧ DataW.trod enc P w 0 (fun _ => true) true m' e ci = some y := fun i hi => by
      have h1 := helem i hi
      rw [hsz, List.getElem?_eq_getElem (by omega)] at h1
      rw [Option.bind_eq_some_iff] at h1
      obtain ⟨ci, hc, hy⟩ := h1
      exact ⟨ci, _, List.getElem?_eq_getElem (by omega), hc, hy⟩
    have hch : ∀ i, i < len → ∃ z : α, ∃ ci, R z ci ∧ w.cells? 0 (a.add (i * sz)) sz = some ci := fun i hi => by
      obtain ⟨ci, y, hy, hc, htr⟩ := hget i hi
      obtain ⟨z, hz⟩ := he m' (by omega) ci y htr (fun k hk => hw k (by
        simp only [DataW.weights, ht, List.mem_cons, List.mem_append]
        exact .inr (.inl (weightsAll_mem (List.mem_map.2 ⟨y, List.mem_of_getElem? hy, rfl⟩) k hk))))
      exact ⟨z, ci, hz, hc⟩
    obtain ⟨xs, hl, hx⟩ := exists_list len hch
    subst hl
    refine ⟨xs, _, rfl, some a, cap, rfl, hlc, capOk_of hlc hcap, fun hne => ?_⟩
    have hpl : 0 < xs.length := List.length_pos_iff.2 hne
    obtain ⟨b, o, spot⟩ := a
    have h0 : ∃ u, w.cell? ((⟨b, o, spot⟩ : Addr).add (0 * sz + 0)) = some u ∧ b < w.heap.size := by
      obtain ⟨z, ci, _, hc⟩ := hch 0 hpl
      obtain ⟨_, hcl, hcc⟩ := World.cells?_some hc
      have h1 := hcc 0 hpos
      rw [List.getElem?_eq_getElem (by omega)] at h1
      have h2 : w.cell? (⟨b, o, spot⟩ : Addr) = some ci[0] := by simpa [Addr.add] using h1
      refine ⟨ci[0], by simpa [Addr.add] using h1, World.block_lt_of_cell? w _ h2⟩
    obtain ⟨u, hu, hblt⟩ := h0
    have hspot : spot = none := by simpa [Addr.add] using World.cell?_spot hu
    subst hspot
    refine ⟨b, o, rfl, hS b hblt, hblt, fun j z hz => ?_⟩
    obtain ⟨ci, hR, hc⟩ := hx j z hz
    obtain ⟨_, hcl, hcc⟩ := World.cells?_some hc
    refine ⟨ci, hR, fun i u hi => ?_⟩
    have h1 := hcc i (by rw [← hcl]; exact (List.getElem?_eq_some_iff.1 hi).1)
    rw [addr_add, addr_add] at h1
    rw [h1]; exact hi

/-- A struct's field. -/
theorem opens_field {n : Nat} {t : TypeId} {fs : Array Field} {cs : List Value} {x : DataW H × List MemPlace} (ht : P.underlying t = some (.struct fs)) (h : DataW.trod enc P w 0 (fun _ => true) true n t cs = some x) (hw : ∀ k ∈ x.1.weights P t, k ≤ reachBytes) :
    cs.length = P.cellsOf t ∧ ∃ m, n = m + 1 ∧ ∀ (i : Nat) (f : Field), fs[i]? = some f →
      ∃ y, DataW.trod enc P w 0 (fun _ => true) true m f.type ((cs.drop f.offset).take (P.cellsOf f.type)) = some y ∧ ∀ k ∈ y.1.weights P f.type, k ≤ reachBytes := by
  obtain ⟨xs, m, rfl, rfl, hl, hxl, hf⟩ := DataW.trod_struct ht h
  refine ⟨hl, m, rfl, fun i f hi => ?_⟩
  have h1 := hf i f hi
  have hlt : i < xs.length := by rw [hxl]; exact (Array.getElem?_eq_some_iff.1 hi).1
  rw [List.getElem?_eq_getElem hlt] at h1
  refine ⟨_, h1, fun k hk => hw k ?_⟩
  simp only [DataW.weights, ht]
  refine DataW.weights_mem_each (j := i) (t := f.type) (d := xs[i].1) ?_ ?_ k hk
  · rw [List.getElem?_map, Array.getElem?_toList, hi]; rfl
  · rw [List.getElem?_map, List.getElem?_eq_getElem hlt]; rfl

/-- A JSON value. -/
theorem opens_V {tv ti tl ts tn tm : TypeId} {S : Blocks} (hS : ∀ b, b < w.heap.size → S b) {f0 f1 f2 f3 f4 : Field} (ht : P.underlying tv = some (.struct #[f0, f1, f2, f3, f4])) (hc : P.cellsOf tv = 5)
    (e0 : f0.type = ti ∧ f0.offset = 0) (e1 : f1.type = tl ∧ f1.offset = 1) (e2 : f2.type = ts ∧ f2.offset = 2) (e3 : f3.type = tn ∧ f3.offset = 3) (e4 : f4.type = tm ∧ f4.offset = 4)
    (hi : P.underlying ti = some (.int .i64)) (hl : P.underlying tl = some (.int .i64)) (hs : P.underlying ts = some .string) (hn : P.underlying tn = some (.slice ts)) (hm : P.underlying tm = some (.slice tv))
    (c0 : P.cellsOf ti = 1) (c1 : P.cellsOf tl = 1) (c2 : P.cellsOf ts = 1) (c3 : P.cellsOf tn = 1) (c4 : P.cellsOf tm = 1) (b2 : 1 ≤ P.bytesOf ts) (bv : 1 ≤ P.bytesOf tv) :
    ∀ n, Opens enc P w n tv (RV w S) := by
  intro n
  induction n with
  | zero => exact Opens.zero
  | succ n ih =>
    intro m hmn cs x h hw
    obtain ⟨hlen, m', rfl, hf⟩ := opens_field ht h hw
    rw [hc] at hlen
    rcases cs with _ | ⟨a0, _ | ⟨a1, _ | ⟨a2, _ | ⟨a3, _ | ⟨a4, _ | ⟨a5, l⟩⟩⟩⟩⟩⟩ <;> simp at hlen
    obtain ⟨y0, t0, w0⟩ := hf 0 f0 rfl
    obtain ⟨y1, t1, w1⟩ := hf 1 f1 rfl
    obtain ⟨y2, t2, w2⟩ := hf 2 f2 rfl
    obtain ⟨y3, t3, w3⟩ := hf 3 f3 rfl
    obtain ⟨y4, t4, w4⟩ := hf 4 f4 rfl
    rw [e0.1] at t0 w0
    rw [e1.1] at t1 w1
    rw [e2.1] at t2 w2
    rw [e3.1] at t3 w3
    rw [e4.1] at t4 w4
    rw [e0.2, c0] at t0
    rw [e1.2, c1] at t1
    rw [e2.2, c2] at t2
    rw [e3.2, c3] at t3
    rw [e4.2, c4] at t4
    obtain ⟨k, hk, hkb⟩ := opens_int (n := m') hi m' (Nat.le_refl _) _ _ t0 w0
    obtain ⟨nn, hnn, hnb⟩ := opens_int (n := m') hl m' (Nat.le_refl _) _ _ t1 w1
    obtain ⟨s, hss, hsb⟩ := opens_str (n := m') (S := S) hs m' (Nat.le_refl _) _ _ t2 w2
    obtain ⟨ns, vn, hvn, hns⟩ := opens_slice (S := S) hS hn b2 c2 (by omega) (opens_str (n := m') (S := S) hs) m' (by omega) _ _ t3 w3
    obtain ⟨is, vi, hvi, his⟩ := opens_slice (S := S) hS hm bv hc (by omega) (ih.le (Nat.le_refl n)) m' (by omega) _ _ t4 w4
    simp at hk hnn hss hvn hvi
    subst hk hnn hvn hvi
    obtain rfl : a2 = .string s := by simpa using hss
    exact ⟨⟨k, nn, s, ns, is⟩, RV.close hns his hkb hnb hsb⟩
end
end Go.Mu
