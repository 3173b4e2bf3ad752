/- Plain: an index as a value, and read back; no program in sight. -/
import Derived.Test.YtgcbkecpplhknaaDoorEPlain
import Derived.Test.YtgcbkecpplhknaaDoorJSame
import Derived.Lib.ValidLaws
set_option linter.unusedVariables false
namespace Go.Mu
open Go.RowKit

/-- A value of a text. -/
def leafT (s : ByteArray) : JV := ⟨4, 0, s, [], []⟩
def leafK (k : Int) : JV := ⟨k, 0, ByteArray.empty, [], []⟩
/-- How a field is written. -/
def fieldT (f : FD) : ByteArray := if f.down then bs [45] ++ f.path else f.path
def nmFields : ByteArray := bs [102, 105, 101, 108, 100, 115]
def nmName : ByteArray := bs [110, 97, 109, 101]
def nmUnique : ByteArray := bs [117, 110, 105, 113, 117, 101]
/-- An index as a value. -/
def showX (x : IX) : JV := ⟨6, 0, ByteArray.empty, [nmFields, nmName, nmUnique], [⟨5, 0, ByteArray.empty, [], x.fields.map fun f => leafT (fieldT f)⟩, leafT x.name, leafK (if x.unique then 2 else 1)]⟩
/-- A text as a field. -/
def cutF (s : ByteArray) : FD := if s.data.toList.head? = some 45 then ⟨s.extract 1 s.size, true⟩ else ⟨s, false⟩
/-- The index that a value of three items would be of. -/
def candX (v : JV) : IX := ⟨(v.items.getD 1 (leafK 0)).text, (v.items.getD 0 (leafK 0)).items.map fun x => cutF x.text, decide ((v.items.getD 2 (leafK 0)).kind = 2)⟩
/-- The same, no more than four fields. -/
def candR (v : JV) : IX := ⟨(v.items.getD 1 (leafK 0)).text, ((v.items.getD 0 (leafK 0)).items.take 4).map fun x => cutF x.text, decide ((v.items.getD 2 (leafK 0)).kind = 2)⟩
noncomputable def parseWith (c : IX) (v : JV) : Option IX := if v.items.length = 3 ∧ formX c = true ∧ @decide (showX c = v) (Classical.propDecidable _) = true then some c else none
/-- The index that a value shows. -/
noncomputable def parseX (v : JV) : Option IX := parseWith (candX v) v

theorem formX_len {x : IX} (h : formX x = true) : x.fields.length ≤ 3 ∧ 1 ≤ x.fields.length := by
  rw [show formX x = (nameS x.name && decide (1 ≤ x.fields.length) && decide (x.fields.length ≤ 3) && fieldsS x.fields) from rfl] at h
  simp only [Bool.and_eq_true, decide_eq_true_eq] at h
  exact ⟨h.1.2, h.1.1.2⟩
theorem cand_same (v : JV) (h : formX (candX v) = true ∨ formX (candR v) = true) : candR v = candX v := by
  have hl : (v.items.getD 0 (leafK 0)).items.length ≤ 4 := by
    rcases h with h | h
    · have := (formX_len h).1; simp [candX] at this; simp; omega
    · have := (formX_len h).1; simp [candR] at this; simp; omega
  unfold candR candX
  rw [List.take_of_length_le hl]
theorem parse_same (v : JV) : parseWith (candR v) v = parseX v := by
  by_cases h : formX (candX v) = true ∨ formX (candR v) = true
  · rw [cand_same v h]; rfl
  · have h1 : formX (candX v) = false := by cases hq : formX (candX v) with | false => rfl | true => exact absurd (.inl hq) h
    have h2 : formX (candR v) = false := by cases hq : formX (candR v) with | false => rfl | true => exact absurd (.inr hq) h
    unfold parseX parseWith
    rw [if_neg (by rw [h2]; simp), if_neg (by rw [h1]; simp)]

theorem size_bs1 : (bs [45]).size = 1 := rfl
theorem cut_field {f : FD} (h : plainS f.path = true) : cutF (fieldT f) = f := by
  cases f with
  | mk p d =>
    unfold cutF fieldT
    cases d with
    | true =>
      simp only [if_true]
      have e : (bs [45] ++ p).data.toList = 45 :: p.data.toList := by
        rw [ByteArray.data_append]; simp [bs]
      rw [if_pos (by rw [e]; rfl)]
      congr 1
      have hsz : (bs [45] ++ p).size = p.data.toList.length + 1 := by rw [ByteArray.size_append, size_bs1]; show 1 + p.data.toList.length = _; omega
      have hx : ((bs [45] ++ p).extract 1 (bs [45] ++ p).size).data.toList = p.data.toList := by
        have h1 : ((bs [45] ++ p).extract 1 (bs [45] ++ p).size).data.toList = ((bs [45] ++ p).data.toList.drop 1).take ((bs [45] ++ p).size - 1) := by
          rw [ByteArray.data_extract, Array.toList_extract]
          first | done | simp [List.extract]
        rw [h1, e, hsz, List.drop_succ_cons, List.drop_zero, Nat.add_sub_cancel, List.take_length]
      exact (bs_of _).symm.trans ((congrArg bs hx).trans (bs_of p))
    | false =>
      simp only [Bool.false_eq_true, if_false]
      rw [if_neg]
      intro hh
      have hm : (45 : UInt8) ∈ p.data.toList := by
        cases hl : p.data.toList with
        | nil => rw [hl] at hh; cases hh
        | cons a t => rw [hl] at hh; simp at hh; rw [hh]; exact List.mem_cons_self
      unfold plainS at h
      rw [List.all_eq_true] at h
      have := h 45 hm
      revert this; decide
theorem field_plain {x : IX} (h : formX x = true) : ∀ f ∈ x.fields, plainS f.path = true ∧ f.path.size ≤ 24 := by
  rw [show formX x = (nameS x.name && decide (1 ≤ x.fields.length) && decide (x.fields.length ≤ 3) && fieldsS x.fields) from rfl] at h
  simp only [Bool.and_eq_true] at h
  have hf := h.2
  unfold fieldsS at hf
  rw [allTo_iff] at hf
  intro f hm
  obtain ⟨i, hi⟩ := List.getElem?_of_mem hm
  have h1 := hf i (List.getElem?_eq_some_iff.1 hi).1
  unfold fieldS at h1
  rw [hi] at h1
  simp only [Bool.and_eq_true, decide_eq_true_eq] at h1
  exact ⟨h1.1.2, h1.1.1.2⟩
theorem cand_show {x : IX} (h : formX x = true) : candX (showX x) = x := by
  cases x with
  | mk n fs u =>
    unfold candX showX
    simp only [List.getD_cons_zero, List.getD_cons_succ, leafT, leafK]
    congr 1
    · rw [List.map_map]
      conv => rhs; rw [← List.map_id fs]
      apply List.map_congr_left
      intro f hf
      exact cut_field (field_plain h f hf).1
    · cases u <;> rfl
theorem parse_show {x : IX} (h : formX x = true) : parseX (showX x) = some x := by
  unfold parseX parseWith
  rw [cand_show h, if_pos ⟨rfl, h, @decide_eq_true _ (Classical.propDecidable _) rfl⟩]

/-! ### what is shown is formed -/
theorem valid_ascii : ∀ (l : List UInt8), (∀ b ∈ l, b.toNat < 128) → Lib.validD l = true
  | [], _ => rfl
  | b :: l, h => by rw [Lib.validD_cons b l (h b List.mem_cons_self)]; exact valid_ascii l (fun x hx => h x (List.mem_cons_of_mem _ hx))
theorem plain_valid {s : ByteArray} (h : plainS s = true) : Lib.validD s.data.toList = true := valid_ascii _ (fun b hb => by
  obtain ⟨j, hj⟩ := List.getElem?_of_mem hb
  exact plain_ascii h j b hj)
theorem field_text {f : FD} (h : plainS f.path = true) (h24 : f.path.size ≤ 24) : textS (fieldT f) = true := by
  unfold textS fieldT
  cases f.down with
  | true =>
    simp only [if_true]
    have e : (bs [45] ++ f.path).data.toList = 45 :: f.path.data.toList := by rw [ByteArray.data_append]; simp [bs]
    rw [e, Lib.validD_cons 45 _ (by decide), plain_valid h, ByteArray.size_append, size_bs1]
    simp; omega
  | false => simp only [Bool.false_eq_true, if_false]; rw [plain_valid h]; simp; omega
theorem name_text {s : ByteArray} (h : nameS s = true) : textS s = true := by
  unfold nameS at h
  simp only [Bool.and_eq_true, decide_eq_true_eq] at h
  unfold textS
  rw [plain_valid (low_plain h.2)]; simp; omega
theorem leafT_form (m : Nat) (s : ByteArray) (h : textS s = true) : formS (m + 1) (leafT s) = true := by
  have hb : baseS (leafT s) = true := by simp [baseS, leafT]
  rw [formS, shape_small (leafT s) hb h (by simp [leafT])]; rfl
theorem text_empty : textS ByteArray.empty = true := by decide
theorem leafK_form (m : Nat) (k : Int) (h0 : 0 ≤ k) (h3 : k < 3) : formS (m + 1) (leafK k) = true := by
  have hb : baseS (leafK k) = true := by
    unfold baseS leafK
    have e : ByteArray.empty.toList.isEmpty = true := by rw [ByteArray.toList_eq]; rfl
    rw [e]; simp; omega
  rw [formS, shape_small (leafK k) hb text_empty (by simp [leafK]; omega)]; rfl
theorem names3 : namesS [nmFields, nmName, nmUnique] = true := by decide +kernel
theorem base56 (k : Int) (ns : List ByteArray) (is : List JV) (h : k = 5 ∨ k = 6) : baseS ⟨k, 0, ByteArray.empty, ns, is⟩ = true := by
  have e : ByteArray.empty.toList.isEmpty = true := by rw [ByteArray.toList_eq]; rfl
  rcases h with rfl | rfl <;> (unfold baseS; rw [e]; rfl)
theorem show_formed {x : IX} (h : formX x = true) : formS 6 (showX x) = true := by
  have hl := formX_len h
  have hn : nameS x.name = true := by
    rw [show formX x = (nameS x.name && decide (1 ≤ x.fields.length) && decide (x.fields.length ≤ 3) && fieldsS x.fields) from rfl] at h
    simp only [Bool.and_eq_true] at h
    exact h.1.1.1
  have hf := field_plain h
  have h1 : formS 5 ⟨5, 0, ByteArray.empty, [], x.fields.map fun f => leafT (fieldT f)⟩ = true := by
    rw [formS, shape_big _ (base56 5 _ _ (.inl rfl)) text_empty (by show ¬ (5 : Int) < 5; omega)]
    have hn0 : namesS [] = true := rfl
    simp only [countS, Bool.and_eq_true, decide_eq_true_eq, List.all_eq_true]
    refine ⟨⟨⟨by simp; omega, by simp⟩, hn0⟩, fun y hy => ?_⟩
    obtain ⟨f, hfm, rfl⟩ := List.mem_map.1 hy
    exact leafT_form 3 _ (field_text (hf f hfm).1 (hf f hfm).2)
  unfold showX
  rw [formS, shape_big _ (base56 6 _ _ (.inr rfl)) text_empty (by show ¬ (6 : Int) < 5; omega)]
  simp only [countS, Bool.and_eq_true, decide_eq_true_eq, List.all_eq_true]
  refine ⟨⟨⟨by simp, by simp⟩, names3⟩, fun y hy => ?_⟩
  simp only [List.mem_cons, List.not_mem_nil, or_false] at hy
  rcases hy with rfl | rfl | rfl
  · exact h1
  · exact leafT_form 4 _ (name_text hn)
  · cases x.unique
    · exact leafK_form 4 1 (by omega) (by omega)
    · exact leafK_form 4 2 (by omega) (by omega)
end Go.Mu
