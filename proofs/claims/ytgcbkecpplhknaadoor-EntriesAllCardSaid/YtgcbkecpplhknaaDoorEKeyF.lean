/- Own words: a document's entry in an index; no program in sight. -/
import Derived.Test.YtgcbkecpplhknaaDoorEKeyYZ
import Derived.Test.YtgcbkecpplhknaaDoorEShowP
import Derived.Test.YtgcbkecpplhknaaDoorEKeyG
set_option linter.unusedVariables false
namespace Go.Proofs.YtgcbkecpplhknaaDoor
open Go.RowKit Go.Mu

theorem getQ_no {v : JV} {p : ByteArray} {S : Blocks} {w w' : World} {e : Ending} (h : getS v p = none) (hq : GetQ v p S w e w') : e = .returned (.tuple #[.agg #[.int .i64 0, .int .i64 0, .string ⟨#[]⟩, .slice none 0 0, .slice none 0 0], .bool false]) ∧ Below w.heap.size w w' := by
  unfold GetQ at hq; rw [h] at hq; exact ⟨hq.2, hq.1⟩
theorem getQ_yes {v x : JV} {p : ByteArray} {S : Blocks} {w w' : World} {e : Ending} (h : getS v p = some x) (hq : GetQ v p S w e w') : ∃ cs, e = .returned (.tuple #[.agg cs.toArray, .bool true]) ∧ RV w' S x cs ∧ Below w.heap.size w w' := by
  unfold GetQ at hq; rw [h] at hq
  obtain ⟨hb, cs, h1, h2⟩ := hq
  exact ⟨cs, h1, h2, hb⟩
theorem formS_mono {m : Nat} : ∀ {v : JV}, formS m v = true → formS (m + 1) v = true := by
  induction m with
  | zero => intro v h; simp [formS] at h
  | succ m ih =>
    intro v h
    have h1 : (shapeS v && v.items.all (formS m)) = true := h
    simp only [Bool.and_eq_true, List.all_eq_true] at h1
    show (shapeS v && v.items.all (formS (m + 1))) = true
    simp only [Bool.and_eq_true, List.all_eq_true]
    exact ⟨h1.1, fun x hx => ih (h1.2 x hx)⟩
theorem formS_le {m n : Nat} {v : JV} (h : formS m v = true) (hmn : m ≤ n) : formS n v = true := by
  obtain ⟨d, rfl⟩ : ∃ d, n = m + d := ⟨n - m, by omega⟩
  induction d with
  | zero => exact h
  | succ d ih => exact formS_mono (ih (by omega))
theorem walk_form : ∀ (l : List ByteArray) (m : Nat) (u x : JV), formS m u = true → walkS l u = some x → ∃ n, n ≤ m ∧ formS n x = true
  | [], m, u, x, h, hw => by
    unfold walkS at hw; injection hw with hw; subst hw; exact ⟨m, Nat.le_refl _, h⟩
  | s :: l, m, u, x, h, hw => by
    unfold walkS at hw
    split at hw
    · cases hw
    · obtain ⟨y, hy, hw⟩ := Option.bind_eq_some_iff.1 hw
      cases m with
      | zero => simp [formS] at h
      | succ m =>
        obtain ⟨n, hn, hx⟩ := walk_form l m y x (form_item h (List.mem_of_getElem? hy)) hw
        exact ⟨n, by omega, hx⟩
theorem get_form {v x : JV} {p : ByteArray} (h : getS v p = some x) : formS 6 x = true := by
  unfold getS at h
  split at h
  · cases h
  · split at h
    · rename_i hf
      obtain ⟨n, hn, hx⟩ := walk_form _ 6 v x hf h
      exact formS_le hx hn
    · cases h

/-- The values at the fields' paths. -/
def gotS (doc : JV) : List FD → Option (List (JV × Bool))
  | [] => some []
  | f :: l => match getS doc f.path with
    | none => none
    | some v => (gotS doc l).map ((v, f.down) :: ·)
theorem got_snoc {doc v : JV} {f : FD} : ∀ {fs : List FD} {k : Nat} {l : List (JV × Bool)}, fs[k]? = some f → gotS doc (fs.take k) = some l → getS doc f.path = some v → gotS doc (fs.take (k + 1)) = some (l ++ [(v, f.down)])
  | [], k, l, hf, _, _ => by simp at hf
  | g :: fs, 0, l, hf, hl, hv => by
    simp at hf; subst hf
    simp [gotS] at hl; subst hl
    simp [gotS, hv]
  | g :: fs, k + 1, l, hf, hl, hv => by
    simp only [List.take_succ_cons] at hl ⊢
    unfold gotS at hl ⊢
    cases hg : getS doc g.path with
    | none => rw [hg] at hl; cases hl
    | some y =>
      rw [hg] at hl
      simp only [Option.map_eq_some_iff] at hl ⊢
      obtain ⟨l', hl', rfl⟩ := hl
      exact ⟨l' ++ [(v, f.down)], got_snoc (by simpa using hf) hl' hv, rfl⟩
theorem got_none {doc : JV} {f : FD} : ∀ {fs : List FD}, f ∈ fs → getS doc f.path = none → gotS doc fs = none
  | [], hf, _ => by simp at hf
  | g :: fs, hf, hv => by
    unfold gotS
    rcases List.mem_cons.1 hf with rfl | hf
    · rw [hv]
    · cases getS doc g.path with
      | none => rfl
      | some y => rw [got_none hf hv]; rfl
theorem got_form {doc : JV} : ∀ {fs : List FD} {l : List (JV × Bool)}, gotS doc fs = some l → ∀ p ∈ l, formS 6 p.1 = true
  | [], l, h, p, hp => by simp [gotS] at h; subst h; simp at hp
  | g :: fs, l, h, p, hp => by
    unfold gotS at h
    cases hg : getS doc g.path with
    | none => rw [hg] at h; cases h
    | some y =>
      rw [hg] at h
      obtain ⟨l', hl', rfl⟩ := Option.map_eq_some_iff.1 h
      rcases List.mem_cons.1 hp with rfl | hp
      · exact get_form hg
      · exact got_form hl' p hp
theorem got_len {doc : JV} : ∀ {fs : List FD} {l : List (JV × Bool)}, gotS doc fs = some l → l.length = fs.length
  | [], l, h => by simp [gotS] at h; subst h; rfl
  | g :: fs, l, h => by
    unfold gotS at h
    cases hg : getS doc g.path with
    | none => rw [hg] at h; cases h
    | some y =>
      rw [hg] at h
      obtain ⟨l', hl', rfl⟩ := Option.map_eq_some_iff.1 h
      simp [got_len hl']
theorem comp_append (a b : List (JV × Bool)) : compS (a ++ b) = compS a ++ compS b := by simp [compS]
theorem comp_one (v : JV) (d : Bool) : compS [(v, d)] = partS v d := by simp [compS]

/-- A document's entry: 0: refused; 1: there is none; 2: too long; 3: its bytes. -/
def keyR (x : IX) (doc : JV) : Nat × List UInt8 :=
  if formX x = false ∨ formS 6 doc = false ∨ doc.kind ≠ 6 then (0, []) else
  match gotS doc x.fields with
  | none => (1, [])
  | some l => if 90 < (compS l).length then (2, []) else (3, compS l)
theorem keyR_form {x : IX} {doc : JV} (h : formX x = false ∨ formS 6 doc = false ∨ doc.kind ≠ 6) : keyR x doc = (0, []) := by unfold keyR; rw [if_pos h]
theorem keyR_none {x : IX} {doc : JV} (h1 : formX x = true) (h2 : formS 6 doc = true) (h3 : doc.kind = 6) (h : gotS doc x.fields = none) : keyR x doc = (1, []) := by
  unfold keyR; rw [if_neg (by rintro (h | h | h) <;> simp_all), h]
theorem keyR_long {x : IX} {doc : JV} {l : List (JV × Bool)} (h1 : formX x = true) (h2 : formS 6 doc = true) (h3 : doc.kind = 6) (h : gotS doc x.fields = some l) (hl : 90 < (compS l).length) : keyR x doc = (2, []) := by
  unfold keyR; rw [if_neg (by rintro (h | h | h) <;> simp_all), h]
  exact if_pos hl
theorem keyR_ok {x : IX} {doc : JV} {l : List (JV × Bool)} (h1 : formX x = true) (h2 : formS 6 doc = true) (h3 : doc.kind = 6) (h : gotS doc x.fields = some l) (hl : ¬ 90 < (compS l).length) : keyR x doc = (3, compS l) := by
  unfold keyR; rw [if_neg (by rintro (h | h | h) <;> simp_all), h]
  exact if_neg hl
/-- What Key leaves. -/
def KeyXQ (x : IX) (doc : JV) (w : World) (e : Ending) (w' : World) : Prop := Below w.heap.size w w' ∧
  ((keyR x doc = (0, []) ∧ e = .returned (.tuple #[.slice none 0 0, .bool false, .int .i64 2])) ∨
   (keyR x doc = (1, []) ∧ e = .returned (.tuple #[.slice none 0 0, .bool false, .int .i64 0])) ∨
   (keyR x doc = (2, []) ∧ e = .returned (.tuple #[.slice none 0 0, .bool false, .int .i64 3])) ∨
   (∃ l A c, keyR x doc = (3, l) ∧ e = .returned (.tuple #[.slice A l.length c, .bool true, .int .i64 0]) ∧ l.length ≤ 90 ∧ OwnL rByte 5 w.heap.size w' l (.slice A l.length c)))
theorem keyXQ_0 {x : IX} {doc : JV} {w w' : World} (h : keyR x doc = (0, [])) (hb : Below w.heap.size w w') : KeyXQ x doc w (.returned (.tuple #[.slice none 0 0, .bool false, .int .i64 2])) w' := ⟨hb, .inl ⟨h, rfl⟩⟩
theorem keyXQ_1 {x : IX} {doc : JV} {w w' : World} (h : keyR x doc = (1, [])) (hb : Below w.heap.size w w') : KeyXQ x doc w (.returned (.tuple #[.slice none 0 0, .bool false, .int .i64 0])) w' := ⟨hb, .inr (.inl ⟨h, rfl⟩)⟩
theorem keyXQ_2 {x : IX} {doc : JV} {w w' : World} (h : keyR x doc = (2, [])) (hb : Below w.heap.size w w') : KeyXQ x doc w (.returned (.tuple #[.slice none 0 0, .bool false, .int .i64 3])) w' := ⟨hb, .inr (.inr (.inl ⟨h, rfl⟩))⟩
theorem keyXQ_3 {x : IX} {doc : JV} {w w' : World} {l : List UInt8} {n : Nat} {A : Option Addr} {c : Nat} (h : keyR x doc = (3, l)) (hn : l.length = n) (hl : ¬ 90 < n) (ho : OwnL rByte 5 w.heap.size w' l (.slice A n c)) (hb : Below w.heap.size w w') : KeyXQ x doc w (.returned (.tuple #[.slice A n c, .bool true, .int .i64 0])) w' := by
  subst hn
  exact ⟨hb, .inr (.inr (.inr ⟨l, A, c, h, rfl, by omega, ho⟩))⟩
end Go.Proofs.YtgcbkecpplhknaaDoor
