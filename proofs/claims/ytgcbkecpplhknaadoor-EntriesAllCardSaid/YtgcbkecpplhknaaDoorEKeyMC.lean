/- Walks: a document's entry, of the program. Walks: a document's entry, of the program, where all is formed. -/
import Derived.Test.YtgcbkecpplhknaaDoorEKeyK
import Derived.Test.YtgcbkecpplhknaaDoorEKeyH
import Derived.Test.YtgcbkecpplhknaaDoorEShowR


import Derived.WalkKit
import Derived.Deep.QuietTactic
import Derived.BigQuiet
import Derived.Outline
import Derived.Deep.DeepMust
import Derived.Deep.CutBlock
import Derived.Deep.DeepCutAuto
import Derived.Deep.RegionWith
import Derived.WalkSpells
import Derived.WalkLawsBesides
import Derived.Test.YtgcbkecpplhknaaDoorMu
import Derived.Test.YtgcbkecpplhknaaDoorProg
set_option linter.unusedVariables false
set_option linter.unusedSimpArgs false
namespace Go.Proofs.YtgcbkecpplhknaaDoor
open Go.RowKit Go.Mu
end Go.Proofs.YtgcbkecpplhknaaDoor
namespace Go.Proofs.YtgcbkecpplhknaaDoor
open Go.RowKit Go.Mu
attribute [local go_sem ↓] Go.wp_at_zero Go.wp_at_succ

theorem bool_info : ∃ i, Tryd.prog.info? 4 = some i ∧ i.zero = some (.bool false) ∧ i.size = 1 ∧ i.bytes = 1 := by
  have h : (Tryd.prog.info? 4).map (fun i => (i.zero, i.size, i.bytes)) = some (some (.bool false), 1, 1) := by kernel_rfl
  obtain ⟨i, hi, he⟩ := Option.map_eq_some_iff.1 h
  injection he with h1 h2
  injection h2 with h2 h3
  exact ⟨i, hi, h1, h2, h3⟩
/-- But for two rows, what was there is as it was. -/
structure Two (w w' : World) (r1 r2 : Option Nat) : Prop where
  os : w'.os = w.os
  tape : w'.tape = w.tape
  output : w'.output = w.output
  size : w.heap.size ≤ w'.heap.size
  block : ∀ k, k < w.heap.size → some k ≠ r1 → some k ≠ r2 → w'.heap[k]? = w.heap[k]?
theorem Two.below {w w' : World} {r1 r2 : Option Nat} (h : Below w.heap.size w w') : Two w w' r1 r2 := ⟨h.os, h.tape, h.output, h.size, fun k hk _ _ => h.block k hk⟩
theorem Two.alloc {w w' : World} {r1 r2 : Option Nat} (h : Two w w' r1 r2) (o : Obj) : Two w (w'.alloc o) r1 r2 :=
  ⟨h.os, h.tape, h.output, by have := h.size; simp; omega, fun k hk h1 h2 => by rw [Below.heap_alloc _ _ _ (by have := h.size; omega), h.block k hk h1 h2]⟩
theorem Two.row {w w1 w2 : World} {r1 r2 : Option Nat} {r : Option Nat} (h : Two w w1 r1 r2) (hg : w1.grownBy w2 r) (hr : r = r1 ∨ r = r2) : Two w w2 r1 r2 :=
  ⟨hg.os.trans h.os, hg.tape.trans h.tape, hg.output.trans h.output, Nat.le_trans h.size hg.size, fun k hk h1 h2 => by
    rw [hg.block k (Nat.lt_of_lt_of_le hk h.size) (by rcases hr with rfl | rfl <;> assumption), h.block k hk h1 h2]⟩
theorem Two.blk {w w' : World} {r1 r2 : Option Nat} {g : Nat} {t : TypeId} {cs : List Value} (h : Two w w' r1 r2) (hb : Blk w g t cs) (h1 : some g ≠ r1) (h2 : some g ≠ r2) : Blk w' g t cs := (h.block g hb.lt h1 h2).trans hb
theorem news_blk {w : World} {g : Nat} {t : TypeId} {cs : List Value} (h : Blk w g t cs) : ∀ j u, cs[j]? = some u → w.cell? ((⟨g, 0, none⟩ : Addr).add j) = some u := fun j u hu => by
  rw [addr_at, Nat.zero_add]; exact h.cell j hu

theorem getN_no {v : JV} {p : ByteArray} {w w' : World} {e : Ending} (h : getS v p = none) (hq : GetN v p w e w') : e = .returned (.tuple #[.agg #[.int .i64 0, .int .i64 0, .string ⟨#[]⟩, .slice none 0 0, .slice none 0 0], .bool false]) ∧ Below w.heap.size w w' := by
  unfold GetN at hq; rw [h] at hq; exact ⟨hq.2, hq.1⟩
theorem getN_yes {v x : JV} {p : ByteArray} {w w' : World} {e : Ending} (h : getS v p = some x) (hq : GetN v p w e w') : ∃ cs, e = .returned (.tuple #[.agg cs.toArray, .bool true]) ∧ RV w' (fun b => w.heap.size ≤ b) x cs ∧ Below w.heap.size w w' := by
  unfold GetN at hq; rw [h] at hq
  obtain ⟨hb, cs, h1, h2⟩ := hq
  exact ⟨cs, h1, h2, hb⟩
set_option maxRecDepth 100000 in
set_option maxHeartbeats 4000000 in
theorem key_bad (x : IX) (doc : JV) (cx cd : List Value) (S S' : Blocks) (w : World) (h : rIX.R w S x cx) (hd : RV w S' doc cd) (hT : Tabs w) (hbad : formX x = false ∨ formS 6 doc = false ∨ doc.kind ≠ 6) : Calls Tryd.prog 25 #[.agg cx.toArray, .agg cd.toArray] w (KeyXQ x doc w) := by
  have HQ := K.mk (keyR_form hbad)
  have HF := K.mk (fun W (hW : Below w.heap.size w W) => Formed_calls x cx S W (rIX.below h hW) (hT.below hW))
  have HD := K.mk (fun W (hW : Below w.heap.size w W) => json_Formed_calls doc cd S' W (rV.below hd hW) (hT.below hW))
  obtain ⟨A, c, rfl, hf, hns⟩ := rIX_open h
  obtain ⟨An, cn, Ai, ci, rfl, hnm, hit, hk, hn, ht⟩ := hd.wide
  clear h hf hd hnm hit hT
  cases hfx : formX x with
  | false =>
    rw [hfx] at HF
    clear hfx hbad
    go_enter Tryd.func25, Tryd.ntmps25
    go_wp2_with (go_at_call 12; go_must ((refine (HF.o _ (below_a2 _ _ _)).mono ?_; rintro e w1 ⟨rfl, hb1⟩; have HB := K.mk (below2 (below_a2 _ _ _) hb1); have HV := K.mk ((Blk.new2 _ _ _ _).below hb1 (by simp)); have HX := K.mk ((Blk.new1 _ _ _ _).below hb1 (by simp; omega)); obtain ⟨v0, v1, v2, v3, v4⟩ := HV.o.five; clear hb1)))
    go_ret3
    exact keyXQ_0 HQ.o HB.o
  | true =>
    rw [hfx] at HF
    by_cases hk6 : doc.kind = 6
    · have hfd : formS 6 doc = false := by rcases hbad with h | h | h <;> simp_all
      rw [hfd] at HD
      have hq6 : (doc.kind != 6) = false := bne_ff hk6
      clear hfx hfd hbad hk6
      go_enter Tryd.func25, Tryd.ntmps25
      go_wp2_with (first | (go_at_call 12; go_must ((refine (HF.o _ (below_a2 _ _ _)).mono ?_; rintro e w1 ⟨rfl, hb1⟩; have HB := K.mk (below2 (below_a2 _ _ _) hb1); have HV := K.mk ((Blk.new2 _ _ _ _).below hb1 (by simp)); have HX := K.mk ((Blk.new1 _ _ _ _).below hb1 (by simp; omega)); obtain ⟨v0, v1, v2, v3, v4⟩ := HV.o.five; clear hb1))) | (go_at_call 24; go_must ((refine (HD.o _ HB.o).mono ?_; rintro e w2 ⟨rfl, hb2⟩; have HB2 := K.mk (below2 HB.o hb2); have HV2 := K.mk (HV.o.below hb2 HV.o.lt); have HX2 := K.mk (HX.o.below hb2 HX.o.lt); have x1 := HX2.o.cell 1 rfl; clear hb2))))
      go_ret3
      exact keyXQ_0 HQ.o HB2.o
    · have hq6 : (doc.kind != 6) = true := bne_tt hk6
      clear hfx hbad hk6
      go_enter Tryd.func25, Tryd.ntmps25
      go_wp2_with (go_at_call 12; go_must ((refine (HF.o _ (below_a2 _ _ _)).mono ?_; rintro e w1 ⟨rfl, hb1⟩; have HB := K.mk (below2 (below_a2 _ _ _) hb1); have HV := K.mk ((Blk.new2 _ _ _ _).below hb1 (by simp)); have HX := K.mk ((Blk.new1 _ _ _ _).below hb1 (by simp; omega)); obtain ⟨v0, v1, v2, v3, v4⟩ := HV.o.five; clear hb1)))
      go_ret3
      exact keyXQ_0 HQ.o HB.o
end Go.Proofs.YtgcbkecpplhknaaDoor

namespace Go.Proofs.YtgcbkecpplhknaaDoor
open Go.RowKit Go.Mu
attribute [local go_sem ↓] Go.wp_at_zero Go.wp_at_succ

theorem gne {lv dv : Value} {gL gD N M : Nat} (hd : ∀ q, lv.ownBlock = some q → dv.ownBlock ≠ some q) (hl : lv.ownBlock = some gL ∨ N ≤ gL) (hdn : ∀ q, dv.ownBlock = some q → q < N) (hL : gL < M) (hD : dv.ownBlock = some gD ∨ M ≤ gD) : gL ≠ gD := by
  rintro rfl
  rcases hD with hD | hD
  · rcases hl with hl | hl
    · exact hd _ hl hD
    · have := hdn _ hD; omega
  · omega
theorem key_rv {wv wF : World} {lv dv : Value} {gL gD n m cL cD : Nat} {x : JV} {cs : List Value} (h : RV wv (fun b => some b ≠ lv.ownBlock ∧ some b ≠ dv.ownBlock) x cs) (ht : Two wv wF lv.ownBlock dv.ownBlock)
    (hl : lv.ownBlock = some gL ∨ wv.heap.size ≤ gL) (hd : dv.ownBlock = some gD ∨ wv.heap.size ≤ gD) : RV wF (fun b => some b ≠ (Value.slice (some ⟨gL, 0, none⟩) n cL).ownBlock ∧ some b ≠ (Value.slice (some ⟨gD, 0, none⟩) m cD).ownBlock) x cs :=
  RV.step (fun b hb hlt => ⟨ht.block b hlt hb.1 hb.2, fun h => by
    have h1 : some b = some gL := h
    rcases hl with hl | hl
    · exact hb.1 (by rw [hl]; exact h1)
    · injection h1 with h1; omega, fun h => by
    have h1 : some b = some gD := h
    rcases hd with hd | hd
    · exact hb.2 (by rw [hd]; exact h1)
    · injection h1 with h1; omega⟩) _ _ h
theorem two_below {w wv wF : World} {r1 r2 : Option Nat} (h : Below w.heap.size w wv) (ht : Two wv wF r1 r2) (h1 : ∀ q, r1 = some q → w.heap.size ≤ q) (h2 : ∀ q, r2 = some q → w.heap.size ≤ q) : Below w.heap.size w wF :=
  ⟨ht.os.trans h.os, ht.tape.trans h.tape, ht.output.trans h.output, Nat.le_trans h.size ht.size, fun k hk => by
    rw [ht.block k (Nat.lt_of_lt_of_le hk h.size) (fun he => by have := h1 k he.symm; omega) (fun he => by have := h2 k he.symm; omega), h.block k hk]⟩
theorem zip_fst_snd {α β : Type} : ∀ (l : List (α × β)), (l.map Prod.fst).zip (l.map Prod.snd) = l
  | [] => rfl
  | (a, b) :: l => by simp [zip_fst_snd l]
theorem compQ_is_long {l : List UInt8} {w w' : World} {e : Ending} (h : 200 < l.length) (hq : CompQ l w e w') : e = .returned (.tuple #[.slice none 0 0, .int .i64 3]) ∧ Below w.heap.size w w' := by
  unfold CompQ at hq; rw [if_pos h] at hq; exact ⟨hq.2, hq.1⟩
theorem compQ_is_ok {l : List UInt8} {w w' : World} {e : Ending} (h : ¬ 200 < l.length) (hq : CompQ l w e w') : ∃ A c, e = .returned (.tuple #[.slice A l.length c, .int .i64 0]) ∧ OwnL rByte 5 w.heap.size w' l (.slice A l.length c) ∧ Below w.heap.size w w' := by
  unfold CompQ at hq; rw [if_neg h] at hq
  obtain ⟨hb, A, c, h1, h2⟩ := hq
  exact ⟨A, c, h1, h2, hb⟩
theorem rows_snoc {w : World} {S : Blocks} {l : List (JV × Bool)} {css : List (List Value)} {v : JV} {d : Bool} {cs : List Value} (hl : css.length = l.length)
    (h : ∀ (j : Nat) (x : JV) (c : List Value), (l.map Prod.fst)[j]? = some x → css[j]? = some c → RV w S x c) (hv : RV w S v cs) :
    ∀ (j : Nat) (x : JV) (c : List Value), ((l ++ [(v, d)]).map Prod.fst)[j]? = some x → (css ++ [cs])[j]? = some c → RV w S x c := by
  intro j x c hx hc
  rw [List.map_append] at hx
  rcases Nat.lt_or_ge j l.length with hj | hj
  · rw [List.getElem?_append_left (by simpa using hj)] at hx
    rw [List.getElem?_append_left (by omega)] at hc
    exact h j x c hx hc
  · have hj2 : j = l.length := by
      have := (List.getElem?_eq_some_iff.1 hc).1
      simp at this; omega
    subst hj2
    rw [List.getElem?_append_right (by simp)] at hx
    rw [List.getElem?_append_right (by omega)] at hc
    simp at hx
    rw [show l.length - css.length = 0 by omega] at hc
    simp at hc
    subst hx hc
    exact hv

theorem gneq {lv dv : Value} {gD N : Nat} (hd : ∀ q, lv.ownBlock = some q → dv.ownBlock ≠ some q) (hD : dv.ownBlock = some gD ∨ N ≤ gD) (hln : ∀ q, lv.ownBlock = some q → q < N) : lv.ownBlock = some gD → False := by
  intro h
  rcases hD with hD | hD
  · exact hd _ h hD
  · have := hln _ h; omega

set_option maxRecDepth 100000 in
set_option maxHeartbeats 8000000 in
theorem key_good (x : IX) (doc : JV) (cx cd : List Value) (S S' : Blocks) (w : World) (h : rIX.R w S x cx) (hd : RV w S' doc cd) (hT : Tabs w) (hfx : formX x = true) (hfd : formS 6 doc = true) (hk6 : doc.kind = 6) : Calls Tryd.prog 25 #[.agg cx.toArray, .agg cd.toArray] w (KeyXQ x doc w) := by
  have HQ := K.mk (And.intro hfx (And.intro hfd hk6))
  obtain ⟨i0, hi, hz0, hz1, hz2⟩ := val_info
  obtain ⟨i1, hj, hy0, hy1, hy2⟩ := bool_info
  have HF := K.mk (fun W (hW : Below w.heap.size w W) => Formed_calls x cx S W (rIX.below h hW) (hT.below hW))
  have HD := K.mk (fun W (hW : Below w.heap.size w W) => json_Formed_calls doc cd S' W (rV.below hd hW) (hT.below hW))
  rw [hfx] at HF
  rw [hfd] at HD
  have hl3 := (formX_len hfx).1
  have HG := K.mk (fun (p : ByteArray) (hp : p.size ≤ strMax) W (hW : Below w.heap.size w W) => pGet_calls doc p hp cd S' W (rV.below hd hW) (hT.below hW))
  have HT := K.mk hT
  have hq6 : (doc.kind != 6) = false := bne_ff hk6
  obtain ⟨A, c, rfl, hf, hns⟩ := rIX_open h
  have HFS := K.mk hf
  obtain ⟨An, cn, Ai, ci, rfl, hnm, hit, hk, hn, ht⟩ := hd.wide
  clear h hf hd hnm hit hT hfx hfd hk6
  generalize hfl : x.fields.length = n at *
  have HFL := K.mk hfl
  clear hfl
  go_enter Tryd.func25, Tryd.ntmps25
  go_wp2_with (first
    | (go_at_call 12; go_must ((refine (HF.o _ (below_a2 _ _ _)).mono ?_; rintro e w1 ⟨rfl, hb1⟩; have HB := K.mk (below2 (below_a2 _ _ _) hb1); have HV := K.mk ((Blk.new2 _ _ _ _).below hb1 (by simp)); have HX := K.mk ((Blk.new1 _ _ _ _).below hb1 (by simp; omega)); obtain ⟨v0, v1, v2, v3, v4⟩ := HV.o.five; clear hb1)))
    | (go_at_call 24; go_must ((refine (HD.o _ HB.o).mono ?_; rintro e w2 ⟨rfl, hb2⟩; have HB2 := K.mk (below2 HB.o hb2); have HV2 := K.mk (HV.o.below hb2 HV.o.lt); have HX2 := K.mk (HX.o.below hb2 HX.o.lt); have x1 := HX2.o.cell 1 rfl; clear hb2))))
  go_loopg [7, 8, 31] n (fun g s7 s8 s31 wr => ∃ (k : Nat) (l : List (JV × Bool)) (css : List (List Value)) (lv dv : Value), k ≤ n ∧ n - k ≤ g ∧ lv = s7 ∧ dv = s8 ∧ s31 = .int .i64 k ∧ K (gotS doc (x.fields.take k) = some l) ∧
    K (OwnL rRaw 37 (w.heap.size + 1 + 1) wr css lv) ∧ K (OwnL rBool 4 (w.heap.size + 1 + 1) wr (l.map Prod.snd) dv) ∧
    K (css.length = l.length ∧ ∀ (j : Nat) (x : JV) (c : List Value), (l.map Prod.fst)[j]? = some x → css[j]? = some c → RV wr (fun b => some b ≠ lv.ownBlock ∧ some b ≠ dv.ownBlock) x c) ∧
    K (∀ q, lv.ownBlock = some q → dv.ownBlock ≠ some q) ∧ K (Below w.heap.size w wr) ∧
    K (Blk wr (w.heap.size + 1) 37 [.int .i64 doc.kind, .int .i64 doc.num, .string doc.text, .slice An doc.names.length cn, .slice Ai doc.items.length ci]))
  case atStart => exact ⟨0, [], [], _, _, Nat.zero_le _, Nat.le_refl _, rfl, rfl, rfl, ⟨by simp [gotS]⟩, ⟨OwnL.nil _ _ _ _⟩, ⟨OwnL.nil _ _ _ _⟩, ⟨rfl, fun j x c h => by simp at h⟩, ⟨fun q h => by simp [Value.ownBlock] at h⟩, HB2, HV2⟩
  case round =>
    clear HB HV HX HB2 HV2 HX2 v0 v1 v2 v3 v4 x1
    obtain ⟨k, l, css, lv, dv, hk1, hg, rfl, rfl, rfl, HGT, HOL, HOD, HRL, HDIS, HB, HV⟩ := hrel
    have hvl := HV.o.lt
    have hws := HB.o.size
    rcases Nat.lt_or_ge k n with hlt | hge
    · have hlt' : (k : Int) < (n : Int) := by omega
      obtain ⟨b, o, f, fcs, rfl, hS, hbb, hfx, hRf, hcf⟩ := HFS.o.at k (by rw [HFL.o]; exact hlt)
      obtain ⟨rfl, hfs⟩ := rF_open hRf
      obtain ⟨c0, c1⟩ := (hcf.below HB.o).two
      have HC := K.mk (HG.o f.path hfs (wr.alloc (.cells #[.string f.path, .bool f.down] 65)) (HB.o.alloc HB.o.size _))
      obtain ⟨v0, v1, v2, v3, v4⟩ := HV.o.five
      have HFX := K.mk hfx
      clear hcf hfx hRf
      cases hgs : getS doc f.path with
      | none =>
        have HGN := K.mk (HC.o.mono (fun e w' hh => getN_no hgs hh))
        have HNO := K.mk (keyR_none HQ.o.1 HQ.o.2.1 HQ.o.2.2 (got_none (List.mem_of_getElem? HFX.o) hgs))
        clear hgs
        go_wp2_with (go_at_call 30; go_must ((refine HGN.o.mono ?_; rintro e w5 ⟨rfl, hb5⟩; have HB5 := K.mk ((HB.o.alloc HB.o.size _).trans (below_lo hb5 (by have := HB.o.size; simp; omega))); clear hb5)))
        go_ret3
        exact keyXQ_1 HNO.o (HB5.o.alloc HB5.o.size _)
      | some v =>
        have HGY := K.mk (HC.o.mono (fun e w' hh => getN_yes hgs hh))
        have HGT2 := K.mk (got_snoc HFX.o HGT.o hgs)
        clear hgs
        go_wp2_with (go_at_call 30; go_must ((refine HGY.o.mono ?_; rintro e w5 ⟨ycs, rfl, hR5, hb5⟩; obtain ⟨yAn, ycn, yA, yc, rfl, _⟩ := hR5.wide; have HR5 := K.mk hR5; have HW5 := K.mk hb5; clear hb5 hR5)))
        have hk90 : k ≤ 3 := by omega
        have HLN0 := K.mk (fun q (hq : lv.ownBlock = some q) => HOL.o.lt q hq)
        have HDN0 := K.mk (fun q (hq : dv.ownBlock = some q) => HOD.o.lt q hq)
        have HWA := K.mk (show Below wr.heap.size wr w5 from (below_a1 wr (.cells #[.string f.path, .bool f.down] 65)).trans (below_lo HW5.o (by simp)))
        have hs5 : wr.heap.size < w5.heap.size := by have := HW5.o.size; simp at this; omega
        generalize hwv : w5.alloc (.cells #[.int .i64 v.kind, .int .i64 v.num, .string v.text, .slice yAn v.names.length ycn, .slice yA v.items.length yc] 37) = wv
        have HWV := K.mk (show Below wr.heap.size wr wv by rw [← hwv]; exact below_lo3 HWA.o (below_a1 _ _))
        have HVB := K.mk (show Blk wv w5.heap.size 37 [.int .i64 v.kind, .int .i64 v.num, .string v.text, .slice yAn v.names.length ycn, .slice yA v.items.length yc] by rw [← hwv]; exact Blk.new _ _ _)
        have HFB := K.mk (show Blk wv wr.heap.size 65 [.string f.path, .bool f.down] by rw [← hwv]; exact ((Blk.new wr 65 [.string f.path, .bool f.down]).below HW5.o (by simp)).alloc _)
        have HRv := K.mk (show RV wv (fun b => wr.heap.size < b) v [.int .i64 v.kind, .int .i64 v.num, .string v.text, .slice yAn v.names.length ycn, .slice yA v.items.length yc] by rw [← hwv]; exact rV.mono (rV.below HR5.o (below_a1 _ _)) (fun b hb => by have h1 : (wr.alloc (.cells #[.string f.path, .bool f.down] 65)).heap.size ≤ b := hb; simp at h1; show wr.heap.size < b; omega))
        clear hwv HR5
        have hwvs : w5.heap.size < wv.heap.size := HVB.o.lt
        have HLv := K.mk (HOL.o.more HWV.o)
        have HDv := K.mk (HOD.o.more HWV.o)
        have HLN := K.mk (fun q (hq : lv.ownBlock = some q) => show q < wv.heap.size by have := (HLN0.o q hq).2; omega)
        have HDN := K.mk (fun q (hq : dv.ownBlock = some q) => show q < wv.heap.size by have := (HDN0.o q hq).2; omega)
        have HBwv := K.mk (below2 HB.o HWV.o)
        have hbw : w.heap.size + 1 + 1 ≤ wv.heap.size := by have := HV.o.lt; omega
        have HVw := K.mk (HV.o.below HWV.o hvl)
        have HRA := K.mk (rows_snoc (d := f.down) HRL.o.1 (fun j x c hx hc => rV.below (HRL.o.2 j x c hx hc) HWV.o) (rV.mono HRv.o (fun b hb => (⟨fun h => by have := (HLN0.o _ h.symm).2; have h1 : wr.heap.size < b := hb; omega, fun h => by have := (HDN0.o _ h.symm).2; have h1 : wr.heap.size < b := hb; omega⟩ : some b ≠ lv.ownBlock ∧ some b ≠ dv.ownBlock))))
        have hlk : l.length = k := by have := got_len HGT.o; rw [List.length_take, HFL.o] at this; omega
        have HCL := K.mk (show css.length = k by rw [HRL.o.1]; exact hlk)
        have HDL := K.mk (show (l.map Prod.snd).length = k by rw [List.length_map]; exact hlk)
        have HLL := K.mk (show (css ++ [([.int .i64 v.kind, .int .i64 v.num, .string v.text, .slice yAn v.names.length ycn, .slice yA v.items.length yc] : List Value)]).length = (l ++ [(v, f.down)]).length by simp [HRL.o.1])
        clear hlk
        have nv1 : some w5.heap.size ≠ lv.ownBlock := fun h => by have := (HLN0.o _ h.symm).2; omega
        have nv2 : some w5.heap.size ≠ dv.ownBlock := fun h => by have := (HDN0.o _ h.symm).2; omega
        have nf1 : some wr.heap.size ≠ lv.ownBlock := fun h => by have := (HLN0.o _ h.symm).2; omega
        have nf2 : some wr.heap.size ≠ dv.ownBlock := fun h => by have := (HDN0.o _ h.symm).2; omega
        have nb1 : some (w.heap.size + 1) ≠ lv.ownBlock := fun h => by have := (HLN0.o _ h.symm).1; omega
        have nb2 : some (w.heap.size + 1) ≠ dv.ownBlock := fun h => by have := (HDN0.o _ h.symm).1; omega
        have HNB := K.mk (And.intro nb1 nb2)
        have g0 := fun W (hW : Two wv W lv.ownBlock dv.ownBlock) => (hW.blk HVB.o nv1 nv2).cell 0 rfl
        have g1 := fun W (hW : Two wv W lv.ownBlock dv.ownBlock) => (hW.blk HVB.o nv1 nv2).cell 1 rfl
        have g2 := fun W (hW : Two wv W lv.ownBlock dv.ownBlock) => (hW.blk HVB.o nv1 nv2).cell 2 rfl
        have g3 := fun W (hW : Two wv W lv.ownBlock dv.ownBlock) => (hW.blk HVB.o nv1 nv2).cell 3 rfl
        have g4 := fun W (hW : Two wv W lv.ownBlock dv.ownBlock) => (hW.blk HVB.o nv1 nv2).cell 4 rfl
        have gd := fun W (hW : Two wv W lv.ownBlock dv.ownBlock) => (hW.blk HFB.o nf1 nf2).cell 1 rfl
        clear nv1 nv2 nf1 nf2 nb1 nb2 c0 c1 v0 v1 v2 v3 v4
        have B1 := K.mk ((below_a1 wv (.cells #[.int .i64 v.kind, .int .i64 v.num, .string v.text, .slice yAn v.names.length ycn, .slice yA v.items.length yc] 37)).drew)
        have B3 := K.mk ((below_a1 wv (.cells #[.bool f.down] 4)).drew)
        have B2 := K.mk ((below_a2 wv (.cells #[.int .i64 v.kind, .int .i64 v.num, .string v.text, .slice yAn v.names.length ycn, .slice yA v.items.length yc] 37) (.cells #[.bool f.down] 4)).drew)
        have B4 := K.mk ((below_a2 wv (.cells #[.bool f.down] 4) (.cells #[.int .i64 v.kind, .int .i64 v.num, .string v.text, .slice yAn v.names.length ycn, .slice yA v.items.length yc] 37)).drew)
        have L1 := K.mk ((Blk.new wv 37 [.int .i64 v.kind, .int .i64 v.num, .string v.text, .slice yAn v.names.length ycn, .slice yA v.items.length yc]).drew)
        have L2 := K.mk (((Blk.new wv 37 [.int .i64 v.kind, .int .i64 v.num, .string v.text, .slice yAn v.names.length ycn, .slice yA v.items.length yc]).alloc (.cells #[.bool f.down] 4)).drew)
        have L4 := K.mk ((Blk.new2 wv (.cells #[.bool f.down] 4) 37 [.int .i64 v.kind, .int .i64 v.num, .string v.text, .slice yAn v.names.length ycn, .slice yA v.items.length yc]).drew)
        have D3 := K.mk ((Blk.new wv 4 [.bool f.down]).drew)
        have D2 := K.mk ((Blk.new2 wv (.cells #[.int .i64 v.kind, .int .i64 v.num, .string v.text, .slice yAn v.names.length ycn, .slice yA v.items.length yc] 37) 4 [.bool f.down]).drew)
        have D4 := K.mk (((Blk.new wv 4 [.bool f.down]).alloc (.cells #[.int .i64 v.kind, .int .i64 v.num, .string v.text, .slice yAn v.names.length ycn, .slice yA v.items.length yc] 37)).drew)
        have HN0 := K.mk (show some wv.heap.size ≠ lv.ownBlock ∧ some wv.heap.size ≠ dv.ownBlock ∧ some (wv.heap.size + 1) ≠ lv.ownBlock ∧ some (wv.heap.size + 1) ≠ dv.ownBlock from ⟨fun h => by have := HLN.o _ h.symm; omega, fun h => by have := HDN.o _ h.symm; omega, fun h => by have := HLN.o _ h.symm; omega, fun h => by have := HDN.o _ h.symm; omega⟩)
        go_region_held3 (fun W => Two wv W lv.ownBlock dv.ownBlock) (with_reducible (first | assumption | apply Two.below (Below.refl _ _).drew | apply Two.below B1.o | apply Two.below B2.o | apply Two.below B3.o | apply Two.below B4.o | apply Two.alloc HSL | apply Two.alloc HSD))
          (first
            | ((refine step_append_L rRaw (by rfl) _ _ 35 (by rfl) (w.heap.size + 1 + 1) 37 i0 _ 80 Tryd.underlying35 hi hz0 hz1 hz2 rfl (show 0 < 5 by decide) lv css k HCL.o (by rfl) (by with_reducible exact (HLx.o.alloc _)) [.int .i64 v.kind, .int .i64 v.num, .string v.text, .slice yAn v.names.length ycn, .slice yA v.items.length yc] [.int .i64 v.kind, .int .i64 v.num, .string v.text, .slice yAn v.names.length ycn, .slice yA v.items.length yc] ⟨rfl, rfl, one5 _ _ _ _ _ rfl rfl rfl rfl rfl⟩ ⟨wD.heap.size, 0, none⟩ 1 (by rfl) (by with_reducible exact (news_blk (Blk.new wD _ _))) (by unfold maxLen; omega) (by omega) (by with_reducible exact (Nat.le_trans HBD.o (Nat.le_trans (Nat.le_succ _) (Nat.le_of_eq (World.size_alloc _ _).symm)))) _ rfl ?_; intro gL capL wF hown hgr hat hltL; have HLF2 := K.mk hown; have HDF2 := K.mk (ownL_grown flat_bool (HDF.o.alloc _) hgr (fun q hq h => by have h1 : gD = q := (by (have h2 : some gD = some q := hq; injection h2)); subst h1; exact gneq HDIS.o HAD.o HLN.o h.symm)); have TF := K.mk ((TD.o.alloc _).row hgr (.inl rfl)); have HSF : Two wv wF lv.ownBlock dv.ownBlock := TF.o; have HAL := K.mk (show lv.ownBlock = some gL ∨ wv.heap.size ≤ gL from hat.imp id (fun h => by rw [h]; exact (TD.o.alloc _).size)); have HNE := K.mk (show gL ≠ gD from Ne.symm (gne (fun q hq h => HDIS.o q h hq) HAD.o HLN.o HLTD.o (hat.imp id (fun h => by rw [h]; exact (Nat.le_trans (Nat.le_succ _) (Nat.le_of_eq (World.size_alloc _ _).symm)))))); clear hown hgr hat hltL))
            | ((refine step_append_L rRaw (by rfl) _ _ 35 (by rfl) (w.heap.size + 1 + 1) 37 i0 _ 80 Tryd.underlying35 hi hz0 hz1 hz2 rfl (show 0 < 5 by decide) lv css k HCL.o (by rfl) (by with_reducible exact HLx.o) [.int .i64 v.kind, .int .i64 v.num, .string v.text, .slice yAn v.names.length ycn, .slice yA v.items.length yc] [.int .i64 v.kind, .int .i64 v.num, .string v.text, .slice yAn v.names.length ycn, .slice yA v.items.length yc] ⟨rfl, rfl, one5 _ _ _ _ _ rfl rfl rfl rfl rfl⟩ ⟨wv.heap.size, 0, none⟩ 1 (by rfl) (by with_reducible exact (news_blk BLx.o)) (by unfold maxLen; omega) (by omega) (by with_reducible exact HBD.o) _ rfl ?_; intro gL capL wF hown hgr hat hltL; have HLF2 := K.mk hown; have HDF2 := K.mk (ownL_grown flat_bool HDF.o hgr (fun q hq h => by have h1 : gD = q := (by (have h2 : some gD = some q := hq; injection h2)); subst h1; exact gneq HDIS.o HAD.o HLN.o h.symm)); have TF := K.mk (TD.o.row hgr (.inl rfl)); have HSF : Two wv wF lv.ownBlock dv.ownBlock := TF.o; have HAL := K.mk (show lv.ownBlock = some gL ∨ wv.heap.size ≤ gL from hat.imp id (fun h => by rw [h]; exact TD.o.size)); have HNE := K.mk (show gL ≠ gD from Ne.symm (gne (fun q hq h => HDIS.o q h hq) HAD.o HLN.o HLTD.o (hat.imp id (fun h => by rw [h]; exact (Nat.le_refl _))))); clear hown hgr hat hltL))
            | ((refine step_append_L rRaw (by rfl) _ _ 35 (by rfl) (w.heap.size + 1 + 1) 37 i0 _ 80 Tryd.underlying35 hi hz0 hz1 hz2 rfl (show 0 < 5 by decide) lv css k HCL.o (by rfl) (by with_reducible exact HLx.o) [.int .i64 v.kind, .int .i64 v.num, .string v.text, .slice yAn v.names.length ycn, .slice yA v.items.length yc] [.int .i64 v.kind, .int .i64 v.num, .string v.text, .slice yAn v.names.length ycn, .slice yA v.items.length yc] ⟨rfl, rfl, one5 _ _ _ _ _ rfl rfl rfl rfl rfl⟩ ⟨(wv.heap.size + 1), 0, none⟩ 1 (by rfl) (by with_reducible exact (news_blk BLx.o)) (by unfold maxLen; omega) (by omega) (by with_reducible exact HBD.o) _ rfl ?_; intro gL capL wF hown hgr hat hltL; have HLF2 := K.mk hown; have HDF2 := K.mk (ownL_grown flat_bool HDF.o hgr (fun q hq h => by have h1 : gD = q := (by (have h2 : some gD = some q := hq; injection h2)); subst h1; exact gneq HDIS.o HAD.o HLN.o h.symm)); have TF := K.mk (TD.o.row hgr (.inl rfl)); have HSF : Two wv wF lv.ownBlock dv.ownBlock := TF.o; have HAL := K.mk (show lv.ownBlock = some gL ∨ wv.heap.size ≤ gL from hat.imp id (fun h => by rw [h]; exact TD.o.size)); have HNE := K.mk (show gL ≠ gD from Ne.symm (gne (fun q hq h => HDIS.o q h hq) HAD.o HLN.o HLTD.o (hat.imp id (fun h => by rw [h]; exact (Nat.le_refl _))))); clear hown hgr hat hltL))
            | ((refine step_append_L rRaw (by rfl) _ _ 35 (by rfl) (w.heap.size + 1 + 1) 37 i0 _ 80 Tryd.underlying35 hi hz0 hz1 hz2 rfl (show 0 < 5 by decide) lv css k HCL.o (by rfl) (by with_reducible exact (HLv.o.more B1.o)) [.int .i64 v.kind, .int .i64 v.num, .string v.text, .slice yAn v.names.length ycn, .slice yA v.items.length yc] [.int .i64 v.kind, .int .i64 v.num, .string v.text, .slice yAn v.names.length ycn, .slice yA v.items.length yc] ⟨rfl, rfl, one5 _ _ _ _ _ rfl rfl rfl rfl rfl⟩ ⟨wv.heap.size, 0, none⟩ 1 (by rfl) (by with_reducible exact (news_blk L1.o)) (by unfold maxLen; omega) (by omega) (by with_reducible exact (Nat.le_trans hbw B1.o.size)) _ rfl ?_; intro gL capL wL hown hgr hat hltL; have HLF := K.mk hown; have HDx := K.mk (ownL_grown flat_bool (HDv.o.more B1.o) hgr (fun q hq h => HDIS.o q h.symm hq)); have TL := K.mk ((Two.below (r1 := lv.ownBlock) (r2 := dv.ownBlock) B1.o).row hgr (.inl rfl)); have HSL : Two wv wL lv.ownBlock dv.ownBlock := TL.o; have HAL := K.mk (show lv.ownBlock = some gL ∨ wv.heap.size ≤ gL from hat.imp id (fun h => by rw [h]; exact B1.o.size)); have HBL := K.mk (Nat.le_trans hbw TL.o.size); have HLTL := K.mk hltL; skip; clear hown hgr hat hltL))
            | ((refine step_append_L rRaw (by rfl) _ _ 35 (by rfl) (w.heap.size + 1 + 1) 37 i0 _ 80 Tryd.underlying35 hi hz0 hz1 hz2 rfl (show 0 < 5 by decide) lv css k HCL.o (by rfl) (by with_reducible exact (HLv.o.more B2.o)) [.int .i64 v.kind, .int .i64 v.num, .string v.text, .slice yAn v.names.length ycn, .slice yA v.items.length yc] [.int .i64 v.kind, .int .i64 v.num, .string v.text, .slice yAn v.names.length ycn, .slice yA v.items.length yc] ⟨rfl, rfl, one5 _ _ _ _ _ rfl rfl rfl rfl rfl⟩ ⟨wv.heap.size, 0, none⟩ 1 (by rfl) (by with_reducible exact (news_blk L2.o)) (by unfold maxLen; omega) (by omega) (by with_reducible exact (Nat.le_trans hbw B2.o.size)) _ rfl ?_; intro gL capL wL hown hgr hat hltL; have HLF := K.mk hown; have HDx := K.mk (ownL_grown flat_bool (HDv.o.more B2.o) hgr (fun q hq h => HDIS.o q h.symm hq)); have TL := K.mk ((Two.below (r1 := lv.ownBlock) (r2 := dv.ownBlock) B2.o).row hgr (.inl rfl)); have HSL : Two wv wL lv.ownBlock dv.ownBlock := TL.o; have HAL := K.mk (show lv.ownBlock = some gL ∨ wv.heap.size ≤ gL from hat.imp id (fun h => by rw [h]; exact B2.o.size)); have HBL := K.mk (Nat.le_trans hbw TL.o.size); have HLTL := K.mk hltL; have BDx := K.mk (D2.o.grown hgr HN0.o.2.2.1); clear hown hgr hat hltL))
            | ((refine step_append_L rRaw (by rfl) _ _ 35 (by rfl) (w.heap.size + 1 + 1) 37 i0 _ 80 Tryd.underlying35 hi hz0 hz1 hz2 rfl (show 0 < 5 by decide) lv css k HCL.o (by rfl) (by with_reducible exact (HLv.o.more B4.o)) [.int .i64 v.kind, .int .i64 v.num, .string v.text, .slice yAn v.names.length ycn, .slice yA v.items.length yc] [.int .i64 v.kind, .int .i64 v.num, .string v.text, .slice yAn v.names.length ycn, .slice yA v.items.length yc] ⟨rfl, rfl, one5 _ _ _ _ _ rfl rfl rfl rfl rfl⟩ ⟨(wv.heap.size + 1), 0, none⟩ 1 (by rfl) (by with_reducible exact (news_blk L4.o)) (by unfold maxLen; omega) (by omega) (by with_reducible exact (Nat.le_trans hbw B4.o.size)) _ rfl ?_; intro gL capL wL hown hgr hat hltL; have HLF := K.mk hown; have HDx := K.mk (ownL_grown flat_bool (HDv.o.more B4.o) hgr (fun q hq h => HDIS.o q h.symm hq)); have TL := K.mk ((Two.below (r1 := lv.ownBlock) (r2 := dv.ownBlock) B4.o).row hgr (.inl rfl)); have HSL : Two wv wL lv.ownBlock dv.ownBlock := TL.o; have HAL := K.mk (show lv.ownBlock = some gL ∨ wv.heap.size ≤ gL from hat.imp id (fun h => by rw [h]; exact B4.o.size)); have HBL := K.mk (Nat.le_trans hbw TL.o.size); have HLTL := K.mk hltL; have BDx := K.mk (D4.o.grown hgr HN0.o.1); clear hown hgr hat hltL))
            | ((refine step_append_L rBool (by rfl) _ _ 89 (by rfl) (w.heap.size + 1 + 1) 4 i1 _ 1 Tryd.underlying89 hj hy0 hy1 hy2 rfl (show 0 < 1 by decide) dv (l.map Prod.snd) k HDL.o (by rfl) (by with_reducible exact (HDx.o.alloc _)) f.down [.bool f.down] (show rBool.R _ _ _ _ from rfl) ⟨wL.heap.size, 0, none⟩ 1 (by rfl) (by with_reducible exact (news_blk (Blk.new wL _ _))) (by unfold maxLen; omega) (by omega) (by with_reducible exact (Nat.le_trans HBL.o (Nat.le_trans (Nat.le_succ _) (Nat.le_of_eq (World.size_alloc _ _).symm)))) _ rfl ?_; intro gD capD wF hown hgr hat hltD; have HDF2 := K.mk hown; have HLF2 := K.mk (ownL_grown flat_raw (HLF.o.alloc _) hgr (fun q hq h => by have h1 : gL = q := (by (have h2 : some gL = some q := hq; injection h2)); subst h1; exact gneq (fun q hq h => HDIS.o q h hq) HAL.o HDN.o h.symm)); have TF := K.mk ((TL.o.alloc _).row hgr (.inr rfl)); have HSF : Two wv wF lv.ownBlock dv.ownBlock := TF.o; have HAD := K.mk (show dv.ownBlock = some gD ∨ wv.heap.size ≤ gD from hat.imp id (fun h => by rw [h]; exact (TL.o.alloc _).size)); have HNE := K.mk (show gL ≠ gD from gne HDIS.o HAL.o HDN.o HLTL.o (hat.imp id (fun h => by rw [h]; exact (Nat.le_trans (Nat.le_succ _) (Nat.le_of_eq (World.size_alloc _ _).symm))))); clear hown hgr hat hltD))
            | ((refine step_append_L rBool (by rfl) _ _ 89 (by rfl) (w.heap.size + 1 + 1) 4 i1 _ 1 Tryd.underlying89 hj hy0 hy1 hy2 rfl (show 0 < 1 by decide) dv (l.map Prod.snd) k HDL.o (by rfl) (by with_reducible exact HDx.o) f.down [.bool f.down] (show rBool.R _ _ _ _ from rfl) ⟨wv.heap.size, 0, none⟩ 1 (by rfl) (by with_reducible exact (news_blk BDx.o)) (by unfold maxLen; omega) (by omega) (by with_reducible exact HBL.o) _ rfl ?_; intro gD capD wF hown hgr hat hltD; have HDF2 := K.mk hown; have HLF2 := K.mk (ownL_grown flat_raw HLF.o hgr (fun q hq h => by have h1 : gL = q := (by (have h2 : some gL = some q := hq; injection h2)); subst h1; exact gneq (fun q hq h => HDIS.o q h hq) HAL.o HDN.o h.symm)); have TF := K.mk (TL.o.row hgr (.inr rfl)); have HSF : Two wv wF lv.ownBlock dv.ownBlock := TF.o; have HAD := K.mk (show dv.ownBlock = some gD ∨ wv.heap.size ≤ gD from hat.imp id (fun h => by rw [h]; exact TL.o.size)); have HNE := K.mk (show gL ≠ gD from gne HDIS.o HAL.o HDN.o HLTL.o (hat.imp id (fun h => by rw [h]; exact (Nat.le_refl _)))); clear hown hgr hat hltD))
            | ((refine step_append_L rBool (by rfl) _ _ 89 (by rfl) (w.heap.size + 1 + 1) 4 i1 _ 1 Tryd.underlying89 hj hy0 hy1 hy2 rfl (show 0 < 1 by decide) dv (l.map Prod.snd) k HDL.o (by rfl) (by with_reducible exact HDx.o) f.down [.bool f.down] (show rBool.R _ _ _ _ from rfl) ⟨(wv.heap.size + 1), 0, none⟩ 1 (by rfl) (by with_reducible exact (news_blk BDx.o)) (by unfold maxLen; omega) (by omega) (by with_reducible exact HBL.o) _ rfl ?_; intro gD capD wF hown hgr hat hltD; have HDF2 := K.mk hown; have HLF2 := K.mk (ownL_grown flat_raw HLF.o hgr (fun q hq h => by have h1 : gL = q := (by (have h2 : some gL = some q := hq; injection h2)); subst h1; exact gneq (fun q hq h => HDIS.o q h hq) HAL.o HDN.o h.symm)); have TF := K.mk (TL.o.row hgr (.inr rfl)); have HSF : Two wv wF lv.ownBlock dv.ownBlock := TF.o; have HAD := K.mk (show dv.ownBlock = some gD ∨ wv.heap.size ≤ gD from hat.imp id (fun h => by rw [h]; exact TL.o.size)); have HNE := K.mk (show gL ≠ gD from gne HDIS.o HAL.o HDN.o HLTL.o (hat.imp id (fun h => by rw [h]; exact (Nat.le_refl _)))); clear hown hgr hat hltD))
            | ((refine step_append_L rBool (by rfl) _ _ 89 (by rfl) (w.heap.size + 1 + 1) 4 i1 _ 1 Tryd.underlying89 hj hy0 hy1 hy2 rfl (show 0 < 1 by decide) dv (l.map Prod.snd) k HDL.o (by rfl) (by with_reducible exact (HDv.o.more B3.o)) f.down [.bool f.down] (show rBool.R _ _ _ _ from rfl) ⟨wv.heap.size, 0, none⟩ 1 (by rfl) (by with_reducible exact (news_blk D3.o)) (by unfold maxLen; omega) (by omega) (by with_reducible exact (Nat.le_trans hbw B3.o.size)) _ rfl ?_; intro gD capD wD hown hgr hat hltD; have HDF := K.mk hown; have HLx := K.mk (ownL_grown flat_raw (HLv.o.more B3.o) hgr (fun q hq h => HDIS.o q hq h.symm)); have TD := K.mk ((Two.below (r1 := lv.ownBlock) (r2 := dv.ownBlock) B3.o).row hgr (.inr rfl)); have HSD : Two wv wD lv.ownBlock dv.ownBlock := TD.o; have HAD := K.mk (show dv.ownBlock = some gD ∨ wv.heap.size ≤ gD from hat.imp id (fun h => by rw [h]; exact B3.o.size)); have HBD := K.mk (Nat.le_trans hbw TD.o.size); have HLTD := K.mk hltD; skip; clear hown hgr hat hltD))
            | ((refine step_append_L rBool (by rfl) _ _ 89 (by rfl) (w.heap.size + 1 + 1) 4 i1 _ 1 Tryd.underlying89 hj hy0 hy1 hy2 rfl (show 0 < 1 by decide) dv (l.map Prod.snd) k HDL.o (by rfl) (by with_reducible exact (HDv.o.more B2.o)) f.down [.bool f.down] (show rBool.R _ _ _ _ from rfl) ⟨(wv.heap.size + 1), 0, none⟩ 1 (by rfl) (by with_reducible exact (news_blk D2.o)) (by unfold maxLen; omega) (by omega) (by with_reducible exact (Nat.le_trans hbw B2.o.size)) _ rfl ?_; intro gD capD wD hown hgr hat hltD; have HDF := K.mk hown; have HLx := K.mk (ownL_grown flat_raw (HLv.o.more B2.o) hgr (fun q hq h => HDIS.o q hq h.symm)); have TD := K.mk ((Two.below (r1 := lv.ownBlock) (r2 := dv.ownBlock) B2.o).row hgr (.inr rfl)); have HSD : Two wv wD lv.ownBlock dv.ownBlock := TD.o; have HAD := K.mk (show dv.ownBlock = some gD ∨ wv.heap.size ≤ gD from hat.imp id (fun h => by rw [h]; exact B2.o.size)); have HBD := K.mk (Nat.le_trans hbw TD.o.size); have HLTD := K.mk hltD; have BLx := K.mk (L2.o.grown hgr HN0.o.2.1); clear hown hgr hat hltD))
            | ((refine step_append_L rBool (by rfl) _ _ 89 (by rfl) (w.heap.size + 1 + 1) 4 i1 _ 1 Tryd.underlying89 hj hy0 hy1 hy2 rfl (show 0 < 1 by decide) dv (l.map Prod.snd) k HDL.o (by rfl) (by with_reducible exact (HDv.o.more B4.o)) f.down [.bool f.down] (show rBool.R _ _ _ _ from rfl) ⟨wv.heap.size, 0, none⟩ 1 (by rfl) (by with_reducible exact (news_blk D4.o)) (by unfold maxLen; omega) (by omega) (by with_reducible exact (Nat.le_trans hbw B4.o.size)) _ rfl ?_; intro gD capD wD hown hgr hat hltD; have HDF := K.mk hown; have HLx := K.mk (ownL_grown flat_raw (HLv.o.more B4.o) hgr (fun q hq h => HDIS.o q hq h.symm)); have TD := K.mk ((Two.below (r1 := lv.ownBlock) (r2 := dv.ownBlock) B4.o).row hgr (.inr rfl)); have HSD : Two wv wD lv.ownBlock dv.ownBlock := TD.o; have HAD := K.mk (show dv.ownBlock = some gD ∨ wv.heap.size ≤ gD from hat.imp id (fun h => by rw [h]; exact B4.o.size)); have HBD := K.mk (Nat.le_trans hbw TD.o.size); have HLTD := K.mk hltD; have BLx := K.mk (L4.o.grown hgr HN0.o.2.2.2); clear hown hgr hat hltD)))
        all_goals
          go_wp2_with fail
          go_roundg (n - (k + 1))
          case measure => omega
          case rel => exact ⟨k + 1, l ++ [(v, f.down)], css ++ [_], _, _, by omega, Nat.le_refl _, rfl, rfl, by go_num, HGT2, HLF2, ⟨HDF2.o.cast (by simp)⟩,
            ⟨HLL.o, fun j x c hx hc => key_rv (HRA.o j x c hx hc) TF.o HAL.o HAD.o⟩, ⟨fun q hq h => HNE.o (by have h1 : some gL = some q := hq; have h2 : some gD = some q := h; injection h1 with h1; injection h2 with h2; rw [h1, h2])⟩,
            ⟨two_below HBwv.o TF.o (fun q hq => by have := (HLN0.o q hq).1; omega) (fun q hq => by have := (HDN0.o q hq).1; omega)⟩, ⟨TF.o.blk HVw.o HNB.o.1 HNB.o.2⟩⟩
    · have hlt' : ¬ (k : Int) < (n : Int) := by omega
      have hkk : k = n := by omega
      subst hkk
      have HGT2 := K.mk (show gotS doc x.fields = some l by have h := HGT.o; rwa [List.take_of_length_le (by rw [HFL.o]; exact Nat.le_refl _)] at h)
      have hlk : l.length = k := by have := got_len HGT2.o; rw [HFL.o] at this; omega
      have HCL := K.mk (show css.length = k by rw [HRL.o.1]; exact hlk)
      have HDL := K.mk (show (l.map Prod.snd).length = k by rw [List.length_map]; exact hlk)
      have HVL := K.mk (show (l.map Prod.fst).length = k by rw [List.length_map]; exact hlk)
      have HSL := K.mk (slice_raw (R := RV wr (fun _ => True)) (xs := l.map Prod.fst) (HOL.o.slice (by rw [HCL.o]; unfold strMax; omega)) (by rw [HVL.o, HCL.o]) (fun j x c hx hc => rV.mono (HRL.o.2 j x c hx hc) (fun _ _ => trivial)))
      have HSD := K.mk (HOD.o.slice (by rw [HDL.o]; unfold strMax; omega))
      obtain ⟨lA, lc, rfl⟩ := HOL.o.form
      obtain ⟨dA, dc, rfl⟩ := HOD.o.form
      rw [HCL.o] at HSL
      rw [HDL.o] at HSD
      have HCC := K.mk (Compound_calls (l.map Prod.fst) (l.map Prod.snd) k HVL.o HDL.o (by omega) (fun v hv => by
        obtain ⟨p, hp, rfl⟩ := List.mem_map.1 hv
        exact got_form HGT2.o p hp) lA dA lc dc _ _ wr HSL.o HSD.o (HT.o.below HB.o))
      have hzip : (l.map Prod.fst).zip (l.map Prod.snd) = l := zip_fst_snd l
      rw [hzip] at HCC
      rw [HCL.o, HDL.o]
      by_cases h200 : 200 < (compS l).length
      · have HC2 := K.mk (HCC.o.mono (fun e w' hh => compQ_is_long h200 hh))
        have h90 : 90 < (compS l).length := by omega
        have HFIN := K.mk (keyR_long HQ.o.1 HQ.o.2.1 HQ.o.2.2 HGT2.o h90)
        clear h200 h90 hzip hlk
        go_wp2_with (go_at_call 53; go_must ((refine HC2.o.mono ?_; rintro e w5 ⟨rfl, hb5⟩; have HB5 := K.mk (below2 HB.o hb5); clear hb5)))
        go_ret3
        exact keyXQ_2 HFIN.o HB5.o
      · have HC2 := K.mk (HCC.o.mono (fun e w' hh => compQ_is_ok h200 hh))
        generalize hm : (compS l).length = m at *
        have HM := K.mk hm
        clear hm
        by_cases h90 : 90 < m
        · have HFIN := K.mk (keyR_long HQ.o.1 HQ.o.2.1 HQ.o.2.2 HGT2.o (by rw [HM.o]; exact h90))
          have z : (90 : Int) < (m : Int) := by omega
          clear h200 hzip hlk
          go_wp2_with (go_at_call 53; go_must ((refine HC2.o.mono ?_; rintro e w5 ⟨A5, d5, rfl, ho5, hb5⟩; have HB5 := K.mk (below2 HB.o hb5); clear hb5 ho5)))
          go_ret3
          exact keyXQ_2 HFIN.o HB5.o
        · have HFIN := K.mk (keyR_ok HQ.o.1 HQ.o.2.1 HQ.o.2.2 HGT2.o (by rw [HM.o]; exact h90))
          have z : ¬ (90 : Int) < (m : Int) := by omega
          clear h200 hzip hlk
          go_wp2_with (go_at_call 53; go_must ((refine HC2.o.mono ?_; rintro e w5 ⟨A5, d5, rfl, ho5, hb5⟩; have HB5 := K.mk (below2 HB.o hb5); have HO5 := K.mk (ownL_down (B' := w.heap.size) ho5 HB.o.size); clear hb5 ho5)))
          go_ret3
          exact keyXQ_3 HFIN.o HM.o h90 HO5.o HB5.o

theorem key_calls (x : IX) (doc : JV) (cx cd : List Value) (S S' : Blocks) (w : World) (h : rIX.R w S x cx) (hd : RV w S' doc cd) (hT : Tabs w) : Calls Tryd.prog 25 #[.agg cx.toArray, .agg cd.toArray] w (KeyXQ x doc w) := by
  by_cases hbad : formX x = false ∨ formS 6 doc = false ∨ doc.kind ≠ 6
  · exact key_bad x doc cx cd S S' w h hd hT hbad
  · have h1 : formX x = true := by cases hx : formX x <;> simp_all
    have h2 : formS 6 doc = true := by cases hx : formS 6 doc <;> simp_all
    exact key_good x doc cx cd S S' w h hd hT h1 h2 (by simp_all)
theorem refKey_calls (x : IX) (doc : JV) (cx cd : List Value) (S S' : Blocks) (w : World) (h : rIX.R w S x cx) (hd : RV w S' doc cd) (hT : Tabs w) : Calls Tryd.prog 26 #[.agg cx.toArray, .agg cd.toArray] w (KeyXQ x doc w) := by
  by_cases hbad : formX x = false ∨ formS 6 doc = false ∨ doc.kind ≠ 6
  · exact refKey_bad x doc cx cd S S' w h hd hT hbad
  · have h1 : formX x = true := by cases hx : formX x <;> simp_all
    have h2 : formS 6 doc = true := by cases hx : formS 6 doc <;> simp_all
    exact refKey_good x doc cx cd S S' w h hd hT h1 h2 (by simp_all)
end Go.Proofs.YtgcbkecpplhknaaDoor
