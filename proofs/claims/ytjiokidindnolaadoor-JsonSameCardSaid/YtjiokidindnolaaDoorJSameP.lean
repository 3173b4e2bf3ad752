/- Plain: formed values have one text each: the text is read in one way alone. -/
import Derived.Test.YtjiokidindnolaaDoorJSame
set_option linter.unusedVariables false
namespace Go.Mu

/-! ### decimal digits -/
def digB (c : UInt8) : Bool := decide (48 ≤ c.toNat) && decide (c.toNat ≤ 57)
def stopB : List UInt8 → Bool
  | [] => true
  | c :: _ => decide (c = 44) || decide (c = 93) || decide (c = 125)
theorem stop_nodig {r : List UInt8} (h : stopB r = true) : ∀ c l, r = c :: l → digB c = false := by
  rintro c l rfl
  simp only [stopB, Bool.or_eq_true, decide_eq_true_eq] at h
  rcases h with (rfl | rfl) | rfl <;> rfl

theorem ofNat_toNat (k : Nat) (h : k < 256) : (UInt8.ofNat k).toNat = k := by
  simp [UInt8.toNat_ofNat']; omega
theorem decDigits_dig (u : Nat) : ∀ c ∈ Lib.decDigits u, digB c = true := by
  induction u using Nat.strongRecOn with
  | _ u ih =>
    rw [Lib.decDigits]
    split
    · rename_i h
      intro c hc
      rw [List.mem_singleton] at hc; subst hc
      unfold digB; rw [ofNat_toNat _ (by omega)]; simp; omega
    · intro c hc
      rcases List.mem_append.1 hc with hc | hc
      · exact ih _ (by omega) c hc
      · rw [List.mem_singleton] at hc; subst hc
        unfold digB; rw [ofNat_toNat _ (by omega)]; simp; omega
def decVal (l : List UInt8) : Nat := l.foldl (fun n c => n * 10 + (c.toNat - 48)) 0
theorem decVal_digits (u : Nat) : decVal (Lib.decDigits u) = u := by
  induction u using Nat.strongRecOn with
  | _ u ih =>
    rw [Lib.decDigits]
    split
    · unfold decVal; simp only [List.foldl_cons, List.foldl_nil]; rw [ofNat_toNat _ (by omega)]; omega
    · have h := ih (u / 10) (by omega)
      unfold decVal at h ⊢
      rw [List.foldl_append, h]
      simp only [List.foldl_cons, List.foldl_nil]
      rw [ofNat_toNat _ (by omega)]; omega
theorem takeDig {l r : List UInt8} (hl : ∀ c ∈ l, digB c = true) (hr : ∀ c t, r = c :: t → digB c = false) : (l ++ r).takeWhile digB = l ∧ (l ++ r).dropWhile digB = r := by
  induction l with
  | nil =>
    cases r with
    | nil => simp
    | cons c t => simp [hr c t rfl]
  | cons a l ih =>
    have h1 := ih (fun c hc => hl c (List.mem_cons_of_mem _ hc))
    simp [hl a List.mem_cons_self, h1]
theorem dec_read {u v : Nat} {r r' : List UInt8} (hr : stopB r = true) (hr' : stopB r' = true) (h : Lib.decDigits u ++ r = Lib.decDigits v ++ r') : u = v ∧ r = r' := by
  obtain ⟨a1, a2⟩ := takeDig (decDigits_dig u) (stop_nodig hr)
  obtain ⟨b1, b2⟩ := takeDig (decDigits_dig v) (stop_nodig hr')
  rw [h] at a1 a2
  rw [b1] at a1
  rw [b2] at a2
  have := congrArg decVal a1
  rw [decVal_digits, decVal_digits] at this
  exact ⟨this.symm, a2.symm⟩
theorem decDigits_cons (u : Nat) : ∃ c l, Lib.decDigits u = c :: l ∧ digB c = true := by
  cases h : Lib.decDigits u with
  | nil => exfalso; rw [Lib.decDigits] at h; split at h <;> simp at h
  | cons c l => exact ⟨c, l, rfl, decDigits_dig u c (by rw [h]; exact List.mem_cons_self)⟩
theorem itoa_read {n m : Int} {r r' : List UInt8} (hr : stopB r = true) (hr' : stopB r' = true) (h : Lib.itoa n ++ r = Lib.itoa m ++ r') : n = m ∧ r = r' := by
  unfold Lib.itoa at h
  by_cases hn : n < 0 <;> by_cases hm : m < 0
  · rw [if_pos hn, if_pos hm] at h
    injection h with _ h
    obtain ⟨h1, h2⟩ := dec_read hr hr' h
    exact ⟨by omega, h2⟩
  · rw [if_pos hn, if_neg hm] at h
    obtain ⟨c, l, hc, hd⟩ := decDigits_cons m.toNat
    rw [hc] at h
    injection h with h _
    subst h; simp [digB] at hd
  · rw [if_neg hn, if_pos hm] at h
    obtain ⟨c, l, hc, hd⟩ := decDigits_cons n.toNat
    rw [hc] at h
    injection h with h _
    subst h; simp [digB] at hd
  · rw [if_neg hn, if_neg hm] at h
    obtain ⟨h1, h2⟩ := dec_read hr hr' h
    exact ⟨by omega, h2⟩

/-! ### strings -/
/-- The byte that a text of a byte begins with stands for, and what is behind. -/
def unesc : List UInt8 → Option (UInt8 × List UInt8)
  | 92 :: 34 :: r => some (34, r)
  | 92 :: 92 :: r => some (92, r)
  | 92 :: 98 :: r => some (8, r)
  | 92 :: 116 :: r => some (9, r)
  | 92 :: 110 :: r => some (10, r)
  | 92 :: 102 :: r => some (12, r)
  | 92 :: 114 :: r => some (13, r)
  | 92 :: 117 :: _ :: _ :: a :: b :: r => some (UInt8.ofNat ((if a.toNat < 87 then a.toNat - 48 else a.toNat - 87) * 16 + (if b.toNat < 87 then b.toNat - 48 else b.toNat - 87)), r)
  | 34 :: _ => none
  | c :: r => some (c, r)
  | [] => none
theorem escS_low : ∀ k : Fin 32, (let c := UInt8.ofNat k.val; ∀ a ∈ [escS c], (a = [92, 98] ∧ c = 8) ∨ (a = [92, 116] ∧ c = 9) ∨ (a = [92, 110] ∧ c = 10) ∨ (a = [92, 102] ∧ c = 12) ∨ (a = [92, 114] ∧ c = 13) ∨
    (∃ x ∈ [hexS (k.val / 16)], ∃ y ∈ [hexS (k.val % 16)], a = [92, 117, 48, 48, x, y] ∧ UInt8.ofNat ((if x.toNat < 87 then x.toNat - 48 else x.toNat - 87) * 16 + (if y.toNat < 87 then y.toNat - 48 else y.toNat - 87)) = c)) := by decide +kernel
theorem unesc_escS (c : UInt8) (r : List UInt8) : unesc (escS c ++ r) = some (c, r) := by
  by_cases hlo : c.toNat < 32
  · have h := escS_low ⟨c.toNat, hlo⟩ (escS c) (by simp)
    have hc : UInt8.ofNat c.toNat = c := by simp
    simp only [hc] at h
    rcases h with ⟨h, rfl⟩ | ⟨h, rfl⟩ | ⟨h, rfl⟩ | ⟨h, rfl⟩ | ⟨h, rfl⟩ | ⟨x, hx, y, hy, h, he⟩
    · rfl
    · rfl
    · rfl
    · rfl
    · rfl
    · rw [h]; simp only [List.cons_append, List.nil_append, unesc]; rw [he]
  · have h32 : ¬ c < 32 := by rw [UInt8.lt_iff_toNat_lt]; exact hlo
    by_cases h34 : c = 34
    · subst h34; rfl
    by_cases h92 : c = 92
    · subst h92; rfl
    have n8 : c ≠ 8 := by rintro rfl; exact hlo (by decide)
    have n9 : c ≠ 9 := by rintro rfl; exact hlo (by decide)
    have n10 : c ≠ 10 := by rintro rfl; exact hlo (by decide)
    have n12 : c ≠ 12 := by rintro rfl; exact hlo (by decide)
    have n13 : c ≠ 13 := by rintro rfl; exact hlo (by decide)
    have he : escS c = [c] := by unfold escS; simp [h34, h92, n8, n9, n10, n12, n13, h32]
    rw [he]
    show unesc (c :: r) = _
    unfold unesc
    split <;> simp_all
theorem unesc_quote (r : List UInt8) : unesc (34 :: r) = none := by simp [unesc]
theorem escL_cons (c : UInt8) (l : List UInt8) : escL (c :: l) = escS c ++ escL l := by simp [escL]
theorem escL_read : ∀ (l l' r r' : List UInt8), escL l ++ 34 :: r = escL l' ++ 34 :: r' → l = l' ∧ r = r'
  | [], [], r, r', h => by simp [escL] at h; exact ⟨rfl, h⟩
  | [], c :: l, r, r', h => by
    rw [escL_cons, List.append_assoc] at h
    have h2 := congrArg unesc h
    rw [unesc_escS] at h2
    simp [escL, unesc_quote] at h2
  | c :: l, [], r, r', h => by
    rw [escL_cons, List.append_assoc] at h
    have h2 := congrArg unesc h
    rw [unesc_escS] at h2
    simp [escL, unesc_quote] at h2
  | c :: l, d :: l', r, r', h => by
    rw [escL_cons, escL_cons, List.append_assoc, List.append_assoc] at h
    have h2 := congrArg unesc h
    rw [unesc_escS, unesc_escS] at h2
    injection h2 with h2
    injection h2 with h3 h4
    obtain ⟨h5, h6⟩ := escL_read l l' r r' h4
    exact ⟨by rw [h3, h5], h6⟩
theorem quoted_read {s t : ByteArray} {r r' : List UInt8} (h : quotedS s ++ r = quotedS t ++ r') : s = t ∧ r = r' := by
  unfold quotedS at h
  simp only [List.cons_append, List.append_assoc, List.nil_append, List.cons.injEq, true_and] at h
  obtain ⟨h1, h2⟩ := escL_read _ _ _ _ h
  exact ⟨by rw [← bs_of s, ← bs_of t, h1], h2⟩

/-! ### values -/
/-- The members from k on, d of them. -/
def restS (v : JV) (f : JV → List UInt8) (k : Nat) : Nat → List UInt8
  | 0 => []
  | d + 1 => headS v k ++ (match v.items[k]? with | some x => f x | none => []) ++ restS v f (k + 1) d
theorem bodyS_rest (v : JV) (f : JV → List UInt8) : ∀ (d k : Nat), bodyS v f (k + d) = bodyS v f k ++ restS v f k d
  | 0, k => by simp [restS]
  | d + 1, k => by
    rw [show k + (d + 1) = (k + 1) + d by omega, bodyS_rest v f d (k + 1), restS]
    simp only [bodyS, List.append_assoc]
    rfl
theorem bodyS_all (v : JV) (f : JV → List UInt8) (n : Nat) : bodyS v f n = restS v f 0 n := by
  have h := bodyS_rest v f n 0
  rw [Nat.zero_add] at h
  rw [h]; simp [bodyS]

/-- What a formed value's text begins with. -/
theorem show_first {m : Nat} {v : JV} (h : formS (m + 1) v = true) :
    (v.kind = 0 ∧ showS (m + 1) v = [110, 117, 108, 108]) ∨ (v.kind = 1 ∧ showS (m + 1) v = [102, 97, 108, 115, 101]) ∨ (v.kind = 2 ∧ showS (m + 1) v = [116, 114, 117, 101]) ∨
    (v.kind = 3 ∧ showS (m + 1) v = Lib.itoa v.num) ∨ (v.kind = 4 ∧ showS (m + 1) v = quotedS v.text) ∨
    (v.kind = 5 ∧ showS (m + 1) v = 91 :: (restS v (showS m) 0 v.items.length ++ [93])) ∨ (v.kind = 6 ∧ showS (m + 1) v = 123 :: (restS v (showS m) 0 v.items.length ++ [125])) := by
  obtain ⟨hb, _⟩ := form_parts h
  simp only [baseS, Bool.and_eq_true, decide_eq_true_eq] at hb
  have hk : v.kind = 0 ∨ v.kind = 1 ∨ v.kind = 2 ∨ v.kind = 3 ∨ v.kind = 4 ∨ v.kind = 5 ∨ v.kind = 6 := by omega
  rcases hk with hk | hk | hk | hk | hk | hk | hk
  · left; exact ⟨hk, by unfold showS; simp [hk]⟩
  · right; left; exact ⟨hk, by unfold showS; simp [hk]⟩
  · right; right; left; exact ⟨hk, by unfold showS; simp [hk]⟩
  · right; right; right; left; exact ⟨hk, by unfold showS; simp [hk]⟩
  · right; right; right; right; left; exact ⟨hk, by unfold showS; simp [hk]⟩
  · right; right; right; right; right; left; exact ⟨hk, by unfold showS; simp [hk, bodyS_all]⟩
  · right; right; right; right; right; right; exact ⟨hk, by unfold showS; simp [hk, bodyS_all]⟩
/-- The first byte of each kind's text. -/
def firstOk (k : Int) (c : UInt8) : Prop := (k = 0 ∧ c = 110) ∨ (k = 1 ∧ c = 102) ∨ (k = 2 ∧ c = 116) ∨ (k = 3 ∧ (c = 45 ∨ digB c = true)) ∨ (k = 4 ∧ c = 34) ∨ (k = 5 ∧ c = 91) ∨ (k = 6 ∧ c = 123)
theorem show_head {m : Nat} {v : JV} (h : formS (m + 1) v = true) : ∃ c l, showS (m + 1) v = c :: l ∧ firstOk v.kind c := by
  rcases show_first h with ⟨hk, e⟩ | ⟨hk, e⟩ | ⟨hk, e⟩ | ⟨hk, e⟩ | ⟨hk, e⟩ | ⟨hk, e⟩ | ⟨hk, e⟩ <;> rw [e, hk]
  · exact ⟨_, _, rfl, by simp [firstOk]⟩
  · exact ⟨_, _, rfl, by simp [firstOk]⟩
  · exact ⟨_, _, rfl, by simp [firstOk]⟩
  · unfold Lib.itoa
    split
    · exact ⟨_, _, rfl, by simp [firstOk]⟩
    · obtain ⟨c, l, hc, hd⟩ := decDigits_cons v.num.toNat
      exact ⟨c, l, hc, by simp [firstOk, hd]⟩
  · exact ⟨_, _, rfl, by simp [firstOk]⟩
  · exact ⟨_, _, rfl, by simp [firstOk]⟩
  · exact ⟨_, _, rfl, by simp [firstOk]⟩
theorem first_kind {k k' : Int} {c : UInt8} (h : firstOk k c) (h' : firstOk k' c) : k = k' := by
  unfold firstOk at h h'
  have d1 : digB 110 = false := by decide
  have d2 : digB 102 = false := by decide
  have d3 : digB 116 = false := by decide
  have d4 : digB 34 = false := by decide
  have d5 : digB 91 = false := by decide
  have d6 : digB 123 = false := by decide
  rcases h with ⟨rfl, rfl⟩ | ⟨rfl, rfl⟩ | ⟨rfl, rfl⟩ | ⟨rfl, rfl | h⟩ | ⟨rfl, rfl⟩ | ⟨rfl, rfl⟩ | ⟨rfl, rfl⟩ <;>
    rcases h' with ⟨rfl, h2⟩ | ⟨rfl, h2⟩ | ⟨rfl, h2⟩ | ⟨rfl, h2 | h2⟩ | ⟨rfl, h2⟩ | ⟨rfl, h2⟩ | ⟨rfl, h2⟩ <;> first | rfl | (exfalso; revert h2; first | decide | (simp_all; done)) | (exfalso; subst h2; simp_all)
theorem first_no_stop {k : Int} {c : UInt8} (h : firstOk k c) : c ≠ 44 ∧ c ≠ 93 ∧ c ≠ 125 := by
  have d1 : digB 44 = false := by decide
  have d2 : digB 93 = false := by decide
  have d3 : digB 125 = false := by decide
  refine ⟨?_, ?_, ?_⟩ <;> rintro rfl <;> unfold firstOk at h <;> simp_all
theorem rest_stop (v : JV) (f : JV → List UInt8) (k d : Nat) (c : UInt8) (r : List UInt8) (hc : c = 93 ∨ c = 125) : stopB (restS v f (k + 1) d ++ c :: r) = true := by
  cases d with
  | zero => rcases hc with rfl | rfl <;> rfl
  | succ d => simp [restS, headS, stopB]

/-- A formed value's fields that its kind doesn't have. -/
theorem form_fields {m : Nat} {v : JV} (h : formS (m + 1) v = true) : (v.kind ≠ 3 → v.num = 0) ∧ (v.kind ≠ 4 → v.text = ByteArray.empty) ∧ (v.kind < 5 → v.names = [] ∧ v.items = []) ∧ (v.kind = 5 → v.names = []) ∧ (v.kind = 6 → v.names.length = v.items.length) := by
  obtain ⟨hb, htx, hi, h5⟩ := form_parts h
  have hs : shapeS v = true := by simp only [formS, Bool.and_eq_true] at h; exact h.1
  have hb' := hb
  simp only [baseS, Bool.and_eq_true, Bool.or_eq_true, decide_eq_true_eq, List.isEmpty_iff] at hb'
  refine ⟨fun h => ?_, fun h => ?_, fun h => ?_, fun h => ?_, fun h => ?_⟩
  · rcases hb'.1.2 with h2 | h2
    · exact absurd h2 h
    · exact h2
  · rcases hb'.2 with h2 | h2
    · exact absurd h2 h
    · rw [ByteArray.toList_eq] at h2
      have := bs_of v.text
      rw [h2] at this; rw [← this]; rfl
  · rw [shape_small v hb htx h] at hs
    simp at hs
    exact ⟨hs.2, hs.1⟩
  · have h2 := (h5 (by omega)).2.1
    rw [if_neg (by omega)] at h2
    exact List.eq_nil_of_length_eq_zero h2
  · have h2 := (h5 (by omega)).2.1
    rwa [if_pos h] at h2

theorem getD_of {l : List ByteArray} {k : Nat} (h : k < l.length) : l[k]? = some (l.getD k ByteArray.empty) := by
  rw [List.getD_eq_getElem?_getD, List.getElem?_eq_getElem h]; rfl

theorem members_read {m : Nat} (ih : ∀ (x y : JV) (r r' : List UInt8), formS m x = true → formS m y = true → stopB r = true → stopB r' = true → showS m x ++ r = showS m y ++ r' → x = y ∧ r = r')
    (ihh : ∀ x, formS m x = true → ∃ c l, showS m x = c :: l ∧ firstOk x.kind c) (a b : JV) (ha : formS (m + 1) a = true) (hb : formS (m + 1) b = true) (hk : a.kind = b.kind) (h56 : a.kind = 5 ∨ a.kind = 6) (c : UInt8) (hc : c = 93 ∨ c = 125) (r r' : List UInt8) :
    ∀ (d e k : Nat), k + d = a.items.length → k + e = b.items.length → restS a (showS m) k d ++ c :: r = restS b (showS m) k e ++ c :: r' →
      r = r' ∧ d = e ∧ ∀ j, k ≤ j → a.items[j]? = b.items[j]? ∧ (a.kind = 6 → a.names[j]? = b.names[j]?) := by
  obtain ⟨_, _, ia, pa⟩ := form_parts ha
  obtain ⟨_, _, ib, pb⟩ := form_parts hb
  have na := (form_fields ha).2.2.2.2
  have nb := (form_fields hb).2.2.2.2
  have hd6 : a.kind = 6 → b.kind = 6 := fun h => by rw [← hk]; exact h
  -- a member's text is not what ends
  have first : ∀ (v : JV) (k : Nat) (x : JV) (t : List UInt8), (∀ x ∈ v.items, formS m x = true) → v.items[k]? = some x → (v.kind = 5 ∨ v.kind = 6) → ∀ q, c :: q ≠ headS v k ++ (showS m x ++ t) := by
    intro v k x t hi hx hv q he
    obtain ⟨f, l, hf, ho⟩ := ihh x (hi x (List.mem_of_getElem? hx))
    unfold headS at he
    by_cases hk0 : 0 < k
    · rw [if_pos hk0] at he
      injection he with he _
      rcases hc with rfl | rfl <;> exact absurd he (by decide)
    · rw [if_neg hk0] at he
      rcases hv with hv | hv
      · rw [if_neg (by omega), hf] at he
        injection he with he _
        have := first_no_stop ho
        rcases hc with rfl | rfl
        · exact this.2.1 he.symm
        · exact this.2.2 he.symm
      · rw [if_pos hv] at he
        injection he with he _
        rcases hc with rfl | rfl <;> exact absurd he (by decide)
  intro d
  induction d with
  | zero =>
    intro e k hd he h
    cases e with
    | zero =>
      simp [restS] at h
      refine ⟨h, rfl, fun j hj => ⟨?_, fun h6 => ?_⟩⟩
      · rw [List.getElem?_eq_none (by omega), List.getElem?_eq_none (by omega)]
      · have := na h6
        have := nb (hd6 h6)
        rw [List.getElem?_eq_none (by omega), List.getElem?_eq_none (by omega)]
    | succ e =>
      exfalso
      have hlt : k < b.items.length := by omega
      simp only [restS, List.getElem?_eq_getElem hlt, List.nil_append, List.append_assoc] at h
      exact first b k _ _ ib (List.getElem?_eq_getElem hlt) (by omega) r h
  | succ d ihd =>
    intro e k hd he h
    have hlt : k < a.items.length := by omega
    cases e with
    | zero =>
      exfalso
      simp only [restS, List.getElem?_eq_getElem hlt, List.nil_append, List.append_assoc] at h
      exact first a k _ _ ia (List.getElem?_eq_getElem hlt) h56 r' h.symm
    | succ e =>
      have hlt' : k < b.items.length := by omega
      rw [restS, restS, List.getElem?_eq_getElem hlt, List.getElem?_eq_getElem hlt'] at h
      simp only [List.append_assoc] at h
      have hh : (a.kind = 6 → a.names[k]? = b.names[k]?) ∧ showS m a.items[k] ++ (restS a (showS m) (k + 1) d ++ c :: r) = showS m b.items[k] ++ (restS b (showS m) (k + 1) e ++ c :: r') := by
        unfold headS at h
        rw [← hk] at h
        simp only [List.append_assoc] at h
        have h2 := List.append_cancel_left h
        by_cases h6 : a.kind = 6
        · rw [if_pos h6, if_pos h6] at h2
          simp only [List.append_assoc] at h2
          obtain ⟨h3, h4⟩ := quoted_read h2
          refine ⟨fun _ => ?_, by simpa using h4⟩
          have := na h6
          have := nb (hd6 h6)
          rw [getD_of (by omega), getD_of (by omega), h3]
        · rw [if_neg h6, if_neg h6] at h2
          exact ⟨fun h => absurd h h6, by simpa using h2⟩
      obtain ⟨h3, h4⟩ := ih _ _ _ _ (ia _ (List.getElem_mem hlt)) (ib _ (List.getElem_mem hlt')) (rest_stop a _ k d c r hc) (rest_stop b _ k e c r' hc) hh.2
      obtain ⟨q1, q2, q3⟩ := ihd e (k + 1) (by omega) (by omega) h4
      refine ⟨q1, by omega, fun j hj => ?_⟩
      rcases Nat.eq_or_lt_of_le hj with rfl | hj
      · exact ⟨by rw [List.getElem?_eq_getElem hlt, List.getElem?_eq_getElem hlt', h3], hh.1⟩
      · exact q3 j hj

theorem show_read : ∀ (m : Nat) (a b : JV) (r r' : List UInt8), formS m a = true → formS m b = true → stopB r = true → stopB r' = true → showS m a ++ r = showS m b ++ r' → a = b ∧ r = r'
  | 0, a, b, r, r', ha, _, _, _, _ => by simp [formS] at ha
  | m + 1, a, b, r, r', ha, hb, hr, hr', h => by
    have hkind : a.kind = b.kind := by
      obtain ⟨c, l, e1, o1⟩ := show_head ha
      obtain ⟨c', l', e2, o2⟩ := show_head hb
      rw [e1, e2] at h
      injection h with h _
      subst h
      exact first_kind o1 o2
    obtain ⟨a1, a2, a3, a4, a5⟩ := form_fields ha
    obtain ⟨b1, b2, b3, b4, b5⟩ := form_fields hb
    have ihh : ∀ x, formS m x = true → ∃ c l, showS m x = c :: l ∧ firstOk x.kind c := by
      cases m with
      | zero => intro x hx; simp [formS] at hx
      | succ m => intro x hx; exact show_head hx
    rcases show_first ha with ⟨hk, e⟩ | ⟨hk, e⟩ | ⟨hk, e⟩ | ⟨hk, e⟩ | ⟨hk, e⟩ | ⟨hk, e⟩ | ⟨hk, e⟩ <;>
      rcases show_first hb with ⟨hk', e'⟩ | ⟨hk', e'⟩ | ⟨hk', e'⟩ | ⟨hk', e'⟩ | ⟨hk', e'⟩ | ⟨hk', e'⟩ | ⟨hk', e'⟩ <;> first | (exfalso; omega) | skip
    · rw [e, e'] at h
      exact ⟨JV.ext' hkind (by rw [a1 (by omega), b1 (by omega)]) (by rw [a2 (by omega), b2 (by omega)]) (by rw [(a3 (by omega)).1, (b3 (by omega)).1]) (by rw [(a3 (by omega)).2, (b3 (by omega)).2]), List.append_cancel_left h⟩
    · rw [e, e'] at h
      exact ⟨JV.ext' hkind (by rw [a1 (by omega), b1 (by omega)]) (by rw [a2 (by omega), b2 (by omega)]) (by rw [(a3 (by omega)).1, (b3 (by omega)).1]) (by rw [(a3 (by omega)).2, (b3 (by omega)).2]), List.append_cancel_left h⟩
    · rw [e, e'] at h
      exact ⟨JV.ext' hkind (by rw [a1 (by omega), b1 (by omega)]) (by rw [a2 (by omega), b2 (by omega)]) (by rw [(a3 (by omega)).1, (b3 (by omega)).1]) (by rw [(a3 (by omega)).2, (b3 (by omega)).2]), List.append_cancel_left h⟩
    · rw [e, e'] at h
      obtain ⟨h1, h2⟩ := itoa_read hr hr' h
      exact ⟨JV.ext' hkind h1 (by rw [a2 (by omega), b2 (by omega)]) (by rw [(a3 (by omega)).1, (b3 (by omega)).1]) (by rw [(a3 (by omega)).2, (b3 (by omega)).2]), h2⟩
    · rw [e, e'] at h
      obtain ⟨h1, h2⟩ := quoted_read h
      exact ⟨JV.ext' hkind (by rw [a1 (by omega), b1 (by omega)]) h1 (by rw [(a3 (by omega)).1, (b3 (by omega)).1]) (by rw [(a3 (by omega)).2, (b3 (by omega)).2]), h2⟩
    · rw [e, e'] at h
      simp only [List.cons_append, List.append_assoc, List.nil_append, List.cons.injEq, true_and] at h
      obtain ⟨h1, h2, h3⟩ := members_read (show_read m) ihh a b ha hb hkind (.inl hk) 93 (.inl rfl) r r' _ _ 0 (by simp) (by simp) h
      exact ⟨JV.ext' hkind (by rw [a1 (by omega), b1 (by omega)]) (by rw [a2 (by omega), b2 (by omega)]) (by rw [a4 hk, b4 hk']) (List.ext_getElem? fun j => (h3 j (Nat.zero_le _)).1), h1⟩
    · rw [e, e'] at h
      simp only [List.cons_append, List.append_assoc, List.nil_append, List.cons.injEq, true_and] at h
      obtain ⟨h1, h2, h3⟩ := members_read (show_read m) ihh a b ha hb hkind (.inr hk) 125 (.inr rfl) r r' _ _ 0 (by simp) (by simp) h
      exact ⟨JV.ext' hkind (by rw [a1 (by omega), b1 (by omega)]) (by rw [a2 (by omega), b2 (by omega)]) (List.ext_getElem? fun j => (h3 j (Nat.zero_le _)).2 hk) (List.ext_getElem? fun j => (h3 j (Nat.zero_le _)).1), h1⟩

theorem show_inj {m : Nat} {a b : JV} (ha : formS m a = true) (hb : formS m b = true) (h : showS m a = showS m b) : a = b :=
  (show_read m a b [] [] ha hb rfl rfl (by rw [h])).1
end Go.Mu
