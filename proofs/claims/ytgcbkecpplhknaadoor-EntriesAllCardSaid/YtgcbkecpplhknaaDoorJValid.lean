/- Plain: what the reference's Valid asks of a string is that it is UTF-8. -/
import Derived.Test.YtgcbkecpplhknaaDoorJPlain
import Derived.Lib.ValidLaws
import Derived.Lib.OthersKept
import Derived.Stop.FmtQuoteTie
import Derived.Laws.Cover4
import Derived.Laws.IdiomStrings
set_option linter.unusedVariables false
namespace Go.Proofs.YtgcbkecpplhknaaDoor
open Go.RowKit Go.Mu Go.Lib

/-- A wrong byte lies at this place: the rune is U+FFFD, and its three bytes do not lie there. -/
def brokenAt (s : ByteArray) (p : Nat) : Bool := ((Utf8.decode s p).1 == 65533) && (decide (s.size < p + 3) || !((s.extract p (p + 3)).toList == (⟨#[239, 191, 189]⟩ : ByteArray).toList))

theorem decodeN_fffd (n : Nat) (h : 3 ≤ n) (b3 : Nat) : decodeN n 239 191 189 b3 = (65533, 3) := by
  unfold decodeN
  repeat' split
  all_goals first | rfl | omega

theorem extract_toList (s : ByteArray) (i j : Nat) : (s.extract i j).data.toList = (s.data.toList.drop i).take (j - i) := by
  rw [ByteArray.data_extract, Array.toList_extract]
  first | done | simp [List.extract]

theorem bytes_ext {a b : ByteArray} (h : a.data.toList = b.data.toList) : a = b := by
  cases a; cases b; rename_i x y; cases x; cases y; simp at h; simp [h]

theorem toList_inj {a b : ByteArray} (h : a.toList = b.toList) : a = b := by
  rw [ByteArray.toList_eq, ByteArray.toList_eq] at h
  exact bytes_ext h

theorem bad_iff (s : ByteArray) (p : Nat) (hp : p < s.size) : brokenAt s p = decide ((Utf8.decode s p).1 = 65533 ∧ (Utf8.decode s p).2 = 1) := by
  have hd := decodeL_drop s p
  have hlen : (s.data.toList.drop p).length = s.size - p := by rw [List.length_drop]; rfl
  have hne : s.data.toList.drop p ≠ [] := by intro h; rw [h] at hlen; simp at hlen; omega
  have hex : s.size ≥ p + 3 → (s.extract p (p + 3)).data.toList = (s.data.toList.drop p).take 3 := fun _ => by rw [extract_toList]; congr 1; omega
  unfold brokenAt
  rw [← hd]
  generalize hl : s.data.toList.drop p = l at *
  by_cases h1 : (decodeL l).1 = 65533
  · by_cases h2 : (decodeL l).2 = 1
    · simp only [h1, h2]
      by_cases h3 : s.size < p + 3
      · simp [h3]
      · have hx : ¬ s.extract p (p + 3) = ⟨#[239, 191, 189]⟩ := fun he => by
          have ht := hex (by omega)
          rw [he] at ht
          match l, ht, hlen with
          | a :: b :: c :: t, ht, hlen =>
            have ht' : ([239, 191, 189] : List UInt8) = [a, b, c] := ht
            injection ht' with ha ht'
            injection ht' with hb ht'
            injection ht' with hc _
            subst ha hb hc
            rw [decodeL_N] at h2
            have hz : decodeN (List.length ((239 : UInt8) :: 191 :: 189 :: t)) 239 191 189 (t.getD 0 0).toNat = (65533, 3) := decodeN_fffd _ (by simp) _
            have h2' : (decodeN (List.length ((239 : UInt8) :: 191 :: 189 :: t)) 239 191 189 (t.getD 0 0).toNat).2 = 1 := by
              have e3 : ((239 : UInt8) :: 191 :: 189 :: t).getD 3 0 = t.getD 0 0 := by cases t <;> rfl
              rw [← e3]; exact h2
            rw [hz] at h2'; exact absurd h2' (by decide)
          | [], ht, hlen => simp at hlen; omega
          | [_], ht, hlen => simp at hlen; omega
          | [_, _], ht, hlen => simp at hlen; omega
        have hy : ((s.extract p (p + 3)).toList == (⟨#[239, 191, 189]⟩ : ByteArray).toList) = false := by
          rw [beq_eq_false_iff_ne]; intro h; exact hx (toList_inj h)
        rw [hy]; simp
    · have he := encode_decode l hne (fun h => h2 h.2)
      rw [h1] at he
      have he' : ([239, 191, 189] : List UInt8) = l.take (decodeL l).2 := by rw [← he]; decide
      have hle := decodeL_le l hne
      have h3 : (decodeL l).2 = 3 := by
        have := congrArg List.length he'
        rw [List.length_take] at this
        have h30 : ([239, 191, 189] : List UInt8).length = 3 := rfl
        omega
      rw [h3] at he'
      have hx : s.extract p (p + 3) = ⟨#[239, 191, 189]⟩ := by
        have h4 := hex (by omega)
        rw [← he'] at h4
        cases hs : s.extract p (p + 3) with
        | mk d => rw [hs] at h4; cases d; simp at h4; simp [h4]
      rw [h1, h3, hx]
      have h5 : ¬ s.size < p + 3 := by omega
      simp [h5]
  · simp [h1]

theorem validD_bad (s : ByteArray) (p : Nat) (hp : p < s.size) (hb : brokenAt s p = true) : validD (s.data.toList.drop p) = false := by
  rw [bad_iff s p hp] at hb
  have hlen : (s.data.toList.drop p).length = s.size - p := by rw [List.length_drop]; rfl
  have hne : s.data.toList.drop p ≠ [] := by intro h; rw [h] at hlen; simp at hlen; omega
  rw [validD_step _ hne, decodeL_drop]
  simp at hb
  simp [hb]
theorem validD_good (s : ByteArray) (p : Nat) (hp : p < s.size) (hb : brokenAt s p = false) : validD (s.data.toList.drop (p + (Utf8.decode s p).2)) = validD (s.data.toList.drop p) := by
  rw [bad_iff s p hp] at hb
  have hlen : (s.data.toList.drop p).length = s.size - p := by rw [List.length_drop]; rfl
  have hne : s.data.toList.drop p ≠ [] := by intro h; rw [h] at hlen; simp at hlen; omega
  rw [validD_step (s.data.toList.drop p) hne, decodeL_drop, List.drop_drop]
  simp at hb
  rw [if_neg (by simpa using hb)]
theorem validD_end (s : ByteArray) (p : Nat) (hp : ¬ p < s.size) : validD (s.data.toList.drop p) = true := by
  rw [List.drop_eq_nil_of_le (by show s.size ≤ p; omega)]; rfl

/-! the way to runes and back -/
theorem encode_bytes (r : Nat) : (Utf8.encode (r : Int)).data.toList = encodeRune (r : Int) := by
  have h := Go.Extern.FmtText.encode_eq r
  have hm : (encodeRuneZ (r : Int)).map (fun x => UInt8.ofNat x.toNat) = (Utf8.encode (r : Int)).data.toList := by
    rw [← h, Go.Extern.FmtText.nums, List.map_map]
    conv => rhs; rw [← List.map_id (Utf8.encode (r : Int)).data.toList]
    apply List.map_congr_left
    intro b _
    simp
  rw [← hm]; rfl

/-- The runes of a string, as numbers. -/
def runesI (s : ByteArray) : Nat → Nat → List Int
  | 0, _ => []
  | n + 1, i => if i < s.size then Int.ofNat (Utf8.decode s i).1 :: runesI s n (i + (Utf8.decode s i).2) else []

theorem runesFrom_I (s : ByteArray) : ∀ (n i : Nat) (acc : Array Value), Conv.runesFrom s n i acc = acc ++ ((runesI s n i).map (Value.int .i32)).toArray
  | 0, _, acc => by simp [Conv.runesFrom, runesI]
  | n + 1, i, acc => by
    unfold Conv.runesFrom runesI
    split
    · show Conv.runesFrom s n (i + (Utf8.decode s i).2) (acc.push (.int .i32 (Int.ofNat (Utf8.decode s i).1))) = _
      rw [runesFrom_I s n]; simp
    · simp

theorem foldl_app (ns : List Int) : ∀ a : ByteArray, (ns.foldl (fun r n => r ++ Utf8.encode n) a).data.toList = a.data.toList ++ ns.flatMap (fun n => (Utf8.encode n).data.toList) := by
  induction ns with
  | nil => intro a; simp
  | cons n ns ih => intro a; simp [ih, List.append_assoc]

theorem runesBytes_list (ns : List Int) : (runesBytes ns).data.toList = ns.flatMap (fun n => (Utf8.encode n).data.toList) := by
  unfold runesBytes; rw [foldl_app]; rfl

theorem runes_back (s : ByteArray) : ∀ (n i : Nat), s.size ≤ i + n → validD (s.data.toList.drop i) = true → (runesI s n i).flatMap (fun n => (Utf8.encode n).data.toList) = s.data.toList.drop i
  | 0, i, h, _ => by rw [List.drop_eq_nil_of_le (by show s.size ≤ i; omega)]; rfl
  | n + 1, i, h, hv => by
    unfold runesI
    split
    · rename_i hi
      have hlen : (s.data.toList.drop i).length = s.size - i := by rw [List.length_drop]; rfl
      have hne : s.data.toList.drop i ≠ [] := by intro h; rw [h] at hlen; simp at hlen; omega
      have hw := width_pos s i
      rw [validD_step _ hne] at hv
      split at hv
      · cases hv
      · rename_i hb
        rw [List.drop_drop, decodeL_drop] at hv
        have ih := runes_back s n (i + (Utf8.decode s i).2) (by omega) hv
        have he := encode_decode _ hne hb
        rw [decodeL_drop] at he
        rw [List.flatMap_cons, ih, show Int.ofNat (Utf8.decode s i).1 = ((Utf8.decode s i).1 : Int) from rfl, encode_bytes, he, ← List.drop_drop, List.take_append_drop]
    · rw [List.drop_eq_nil_of_le (by show s.size ≤ i; omega)]; rfl

theorem runesI_length (s : ByteArray) (n i : Nat) : (runesI s n i).length ≤ n := by
  have h := size_runesFrom s n i #[]
  rw [runesFrom_I] at h
  simpa using h

theorem back_of_valid (s : ByteArray) (h : validD s.data.toList = true) : runesBytes (runesI s s.size 0) = s := by
  apply bytes_ext
  rw [runesBytes_list, runes_back s s.size 0 (by omega) (by simpa using h)]; simp
end Go.Proofs.YtgcbkecpplhknaaDoor
