/- reparse: piece, pieces, kept, Changed. -/
import Derived.Test.YtkiijfgoaeiphaaGf
import Derived.Deep.RegionHeld3
import Derived.Deep.CutBlock
import Derived.Deep.CutRange
import Derived.Test.YtkiijfgoaeiphaaRows
import Derived.SizedLaws
import Derived.ChangeMaps5
set_option linter.unusedVariables false
set_option linter.unusedSimpArgs false
namespace Go.Proofs.Ytkiijfgoaeiphaa
open Go.RowKit
attribute [local go_sem ↓] Go.wp_at_zero Go.wp_at_succ

theorem piece_any (s : ByteArray) (a b : Nat) (h1 : a ≤ b) (h2 : b ≤ s.size) (hs : s.size ≤ 100000000) (w : World) : Calls Try.prog 44 #[.string s, .agg #[.int .i64 a, .int .i64 b]] w fun e w' => e = .returned (.string (s.extract a b)) ∧ Below w.heap.size w w' := by
  generalize hPost : (fun (e : Ending) (w' : World) => e = .returned (.string (s.extract a b)) ∧ Below w.heap.size w w') = Post
  have e0 := Sec.mk hPost
  clear hPost
  have k1 : (a : Int) ≤ (b : Int) := by omega
  have k2 : (b : Int) ≤ (s.size : Int) := by omega
  go_enter Try.func44, Try.ntmps44
  go_wp2_with fail
  rw [← e0.out]
  exact ⟨rfl, (Below.refl _ _).alloc (Nat.le_refl _) _⟩

theorem pieces_any (s : ByteArray) (hs : s.size ≤ 100000000) (w : World) : Calls Try.prog 28 #[.string s] w (PostSpans w (spans s)) := by
  have hs1 : s.size ≤ most := by unfold most; omega
  have hs2 : s.size ≤ maxLen := by unfold maxLen; omega
  have hll := lex_len s
  generalize hPost : PostSpans w (spans s) = Post
  have e0 := Sec.mk hPost
  clear hPost
  go_enter Try.func28, Try.ntmps28
  go_wp2_with fail
  refine (lex_any s hs1 _).mono ?_
  rintro e W1 ⟨v, rfl, hT⟩
  obtain ⟨ta, tc, hv⟩ := hT.shape
  subst hv
  go_wp2_with fail
  refine (spans_any s hs2 (lex s) _ W1 ((hT.reads (by omega)).keepBl fun b hb => hb.2) (by omega)).mono ?_
  rintro e W2 ⟨v2, rfl, hS, hB2⟩
  have hB : Below w.heap.size w W2 := hT.below.trans (hB2.mono hT.below.size)
  have hS2 := own_mono hS hT.below.size
  obtain ⟨sa, sc, hv⟩ := own_shape hS
  subst hv
  clear hS hT hB2
  go_wp2_with fail
  rw [← e0.out]
  exact ⟨_, rfl, hS2, hB⟩

/-- Are two pieces the same? -/
def samePiece (s t : ByteArray) (x y : Nat × Nat) : Bool := (s.extract x.1 x.2).toList == (t.extract y.1 y.2).toList
/-- How many pieces are the same at the front. -/
def fronts (s t : ByteArray) : List (Nat × Nat) → List (Nat × Nat) → Nat
  | x :: xs, y :: ys => if samePiece s t x y then fronts s t xs ys + 1 else 0
  | _, _ => 0
/-- How many of the others are the same at the end. -/
def ends (s t : ByteArray) (f : Nat) (a b : List (Nat × Nat)) : Nat := fronts s t (a.drop f).reverse (b.drop f).reverse
theorem fronts_le (s t : ByteArray) : ∀ a b : List (Nat × Nat), fronts s t a b ≤ a.length ∧ fronts s t a b ≤ b.length
  | [], _ => by simp [fronts]
  | _ :: _, [] => by simp [fronts]
  | x :: xs, y :: ys => by
    have := fronts_le s t xs ys
    rw [fronts]
    split <;> simp <;> omega
theorem fronts_step {s t : ByteArray} {a b : List (Nat × Nat)} {k : Nat} {x y : Nat × Nat} (ha : a[k]? = some x) (hb : b[k]? = some y) :
    fronts s t (a.drop k) (b.drop k) = if samePiece s t x y then fronts s t (a.drop (k + 1)) (b.drop (k + 1)) + 1 else 0 := by
  obtain ⟨h1, rfl⟩ := List.getElem?_eq_some_iff.1 ha
  obtain ⟨h2, rfl⟩ := List.getElem?_eq_some_iff.1 hb
  rw [List.drop_eq_getElem_cons h1, List.drop_eq_getElem_cons h2, fronts]
theorem fronts_end {s t : ByteArray} {a b : List (Nat × Nat)} {k : Nat} (h : a.length ≤ k ∨ b.length ≤ k) : fronts s t (a.drop k) (b.drop k) = 0 := by
  rcases h with h | h
  · rw [List.drop_eq_nil_of_le h, fronts.eq_def]
  · have : b.drop k = [] := List.drop_eq_nil_of_le h
    rw [this, fronts.eq_def]; cases a.drop k <;> rfl
theorem back_get {a : List (Nat × Nat)} {f e : Nat} (h : e + f < a.length) : (a.drop f).reverse[e]? = a[a.length - 1 - e]? := by
  rw [List.getElem?_reverse (by simp; omega), List.getElem?_drop, List.length_drop]
  congr 1; omega
theorem span_at {W : World} {base : Nat} {v : Value} {l : List (Nat × Nat)} (h : W.ownsRow base 61 2 v l.length (l.flatMap spanCells)) {k : Nat} {r : Nat × Nat} (hk : l[k]? = some r) :
    ∃ g c, v = .slice (some ⟨g, 0, none⟩) l.length c ∧ g < W.heap.size ∧ W.cell? ⟨g, k * 2, none⟩ = some (.int .i64 r.1) ∧ W.cell? ⟨g, k * 2 + 1, none⟩ = some (.int .i64 r.2) := by
  have hl := (List.getElem?_eq_some_iff.1 hk).1
  obtain ⟨g, c, e, _, hg, hc⟩ := own_at h (by omega)
  have q := fun i u hu => hc (k * 2 + i) u (flat_get (enc := spanCells) (n := 2) (fun _ => rfl) l k r hk i u hu)
  exact ⟨g, c, e, hg, q 0 _ rfl, q 1 _ rfl⟩
/-- The rows lie in their texts. -/
def InText (s : ByteArray) (l : List (Nat × Nat)) : Prop := ∀ r ∈ l, r.1 ≤ r.2 ∧ r.2 ≤ s.size

theorem hold4 {W W' : World} {a b c d : Addr} {x y z u : Value} (h : W.cell? a = some x ∧ W.cell? b = some y ∧ W.cell? c = some z ∧ W.cell? d = some u) (hB : Below W.heap.size W W') : W'.cell? a = some x ∧ W'.cell? b = some y ∧ W'.cell? c = some z ∧ W'.cell? d = some u :=
  ⟨(World.cell?_of_block (hB.block _ (World.block_lt_of_cell? W _ h.1))).trans h.1, (World.cell?_of_block (hB.block _ (World.block_lt_of_cell? W _ h.2.1))).trans h.2.1, (World.cell?_of_block (hB.block _ (World.block_lt_of_cell? W _ h.2.2.1))).trans h.2.2.1, (World.cell?_of_block (hB.block _ (World.block_lt_of_cell? W _ h.2.2.2))).trans h.2.2.2⟩

set_option maxRecDepth 100000 in
set_option maxHeartbeats 4000000 in
theorem kept_any (s t : ByteArray) (hs : s.size ≤ 100000000) (ht : t.size ≤ 100000000) (a b : List (Nat × Nat)) (ha : InText s a) (hb : InText t b) (w : World) (ba bb : Nat) (va vb : Value)
    (hva : w.ownsRow ba 61 2 va a.length (a.flatMap spanCells)) (hvb : w.ownsRow bb 61 2 vb b.length (b.flatMap spanCells)) (hla : a.length ≤ 100000000) (hlb : b.length ≤ 100000000) :
    Calls Try.prog 29 #[.string s, va, .string t, vb] w fun e w' => e = .returned (.tuple #[.int .i64 (fronts s t a b), .int .i64 (ends s t (fronts s t a b) a b)]) ∧ Below w.heap.size w w' := by
  generalize hPost : (fun (e : Ending) (w' : World) => e = .returned (.tuple #[.int .i64 (fronts s t a b), .int .i64 (ends s t (fronts s t a b) a b)]) ∧ Below w.heap.size w w') = Post
  have e0 := Sec.mk hPost
  clear hPost
  obtain ⟨pa, ca, hv⟩ := own_shape hva
  subst hv
  obtain ⟨pb, cb, hv⟩ := own_shape hvb
  subst hv
  have hva' := Sec.mk hva
  have hvb' := Sec.mk hvb
  have ha' := Sec.mk ha
  have hb' := Sec.mk hb
  clear hva hvb ha hb
  have hmm : (a.length : Int) ≤ (b.length : Int) ∨ (b.length : Int) < (a.length : Int) := by omega
  go_enter Try.func29, Try.ntmps29
  go_upto_region 1 with fail
  go_cut [10] from 13 to 17 (fun mv wx => ∃ m : Nat, mv = .int .i64 m ∧ Sec (m ≤ a.length ∧ m ≤ b.length ∧ (m = a.length ∨ m = b.length)) ∧ wx = w)
  case first =>
    rcases hmm with hmm | hmm
    · go_wp2_with fail
      go_meet
      case rel => exact ⟨a.length, rfl, ⟨by omega⟩, rfl⟩
    · go_wp2_with fail
      go_meet
      case rel => exact ⟨b.length, rfl, ⟨by omega⟩, rfl⟩
  case rest =>
  obtain ⟨m, rfl, hm, hwc⟩ := hcut
  obtain rfl := hwc.symm
  have hm1 := hm.out.1
  have hm2 := hm.out.2.1
  go_upto_block 0 with fail
  go_cut [11] from 18 to 37 (fun fv wx => fv = .int .i64 (fronts s t a b) ∧ Below w.heap.size w wx)
  case first =>
    go_wp2_with fail
    go_loopg [11] a.length (fun n iv wr => ∃ k : Nat, iv = .int .i64 k ∧ Sec (k + n = a.length) ∧ Sec (fronts s t a b = k + fronts s t (a.drop k) (b.drop k)) ∧ Below w.heap.size w wr)
    case atStart => exact ⟨0, rfl, ⟨by omega⟩, ⟨by simp⟩, Below.refl _ _⟩
    case round =>
      obtain ⟨k, rfl, hk, hE, hB⟩ := hrel
      by_cases hlt : k < m
      · have h1 : k < a.length := by omega
        have h2 : k < b.length := by omega
        have hi0 : (k : Int) < (m : Int) := by omega
        have hi1 : (k : Int) < (a.length : Int) := by omega
        have hi2 : (k : Int) < (b.length : Int) := by omega
        have hk0 : (0 : Int) ≤ (k : Int) := by omega
        cases gk with
        | zero => have := hk.out; omega
        | succ n =>
          have g1 := List.getElem?_eq_getElem h1
          have g2 := List.getElem?_eq_getElem h2
          obtain ⟨q1, c1, e1, l1, x0, x1⟩ := span_at hva'.out g1
          obtain ⟨q2, c2, e2, l2, y0, y1⟩ := span_at hvb'.out g2
          injection e1 with e1 _ e1'
          injection e2 with e2 _ e2'
          subst e1 e1' e2 e2'
          obtain ⟨i1, i2⟩ := ha'.out _ (List.getElem_mem h1)
          obtain ⟨i3, i4⟩ := hb'.out _ (List.getElem_mem h2)
          have hF := Sec.mk (fronts_step (s := s) (t := t) g1 g2)
          generalize a[k] = x at *
          generalize b[k] = y at *
          clear g1 g2
          obtain ⟨xa, xb⟩ := x
          obtain ⟨ya, yb⟩ := y
          dsimp only at *
          have hS0 : wr.cell? ⟨q1, k * 2, none⟩ = some (.int .i64 xa) ∧ wr.cell? ⟨q1, k * 2 + 1, none⟩ = some (.int .i64 xb) ∧ wr.cell? ⟨q2, k * 2, none⟩ = some (.int .i64 ya) ∧ wr.cell? ⟨q2, k * 2 + 1, none⟩ = some (.int .i64 yb) :=
            ⟨(World.cell?_of_block (hB.block _ l1)).trans x0, (World.cell?_of_block (hB.block _ l1)).trans x1, (World.cell?_of_block (hB.block _ l2)).trans y0, (World.cell?_of_block (hB.block _ l2)).trans y1⟩
          clear x0 x1 y0 y1
          go_wp2_with fail
          have hS1 : wr.drew.cell? ⟨q1, k * 2, none⟩ = some (.int .i64 xa) ∧ wr.drew.cell? ⟨q1, k * 2 + 1, none⟩ = some (.int .i64 xb) ∧ wr.drew.cell? ⟨q2, k * 2, none⟩ = some (.int .i64 ya) ∧ wr.drew.cell? ⟨q2, k * 2 + 1, none⟩ = some (.int .i64 yb) := hS0
          go_region_held3 (fun w' => w'.cell? ⟨q1, k * 2, none⟩ = some (.int .i64 xa) ∧ w'.cell? ⟨q1, k * 2 + 1, none⟩ = some (.int .i64 xb) ∧ w'.cell? ⟨q2, k * 2, none⟩ = some (.int .i64 ya) ∧ w'.cell? ⟨q2, k * 2 + 1, none⟩ = some (.int .i64 yb))
            (first | with_reducible exact hS4 | with_reducible exact hS3 | with_reducible exact hS1 | fail)
            (first | (go_at_call 44; refine (piece_any s xa xb i1 i2 hs _).mono ?_; rintro e W3 ⟨rfl, hB3⟩; have hS3 := hold4 hS1 hB3) | (go_at_call 44; refine (piece_any t ya yb i3 i4 ht _).mono ?_; rintro e W4 ⟨rfl, hB4⟩; have hS4 := hold4 hS3 hB4))
          have hB5 : Below w.heap.size w W4 := (hB.trans (((Below.refl _ wr).drew).trans hB3 |>.mono hB.size)).trans (hB4.mono (by have := hB3.size; have := hB.size; simp at *; omega))
          clear hS0 hS1 hS3 hS4 hB3 hB4
          go_wp2_with fail
          · have hq : ((s.extract xa xb).toList == (t.extract ya yb).toList) = true := ‹((s.extract xa xb).toList == (t.extract ya yb).toList) = true›
            replace hF := Sec.mk (hF.out.trans (if_pos hq))
            go_roundg n
            case measure => omega
            case rel => exact ⟨k + 1, by rw [show ((k + 1 : Nat) : Int) = (k : Int) + 1 from by omega], ⟨by have := hk.out; omega⟩, ⟨by have := hE.out; have := hF.out; omega⟩, hB5⟩
          · have hq : ((s.extract xa xb).toList == (t.extract ya yb).toList) = false := ‹((s.extract xa xb).toList == (t.extract ya yb).toList) = false›
            replace hF := Sec.mk (hF.out.trans (if_neg (by show ¬ ((s.extract xa xb).toList == (t.extract ya yb).toList) = true; rw [hq]; decide)))
            have hf : Sec (fronts s t a b = k) := ⟨by have := hE.out; have := hF.out; omega⟩
            go_meet
            case rel => exact ⟨by rw [hf.out], hB5⟩
      · have hf : Sec (fronts s t a b = k) := ⟨by have := hE.out; rw [fronts_end (by have := hm.out; omega)] at this; omega⟩
        have hki : ¬ (k : Int) < (m : Int) := by omega
        have hkd : decide (k < m) = false := by simp; omega
        go_wp2_with fail
        go_quiet (fail)
        go_wp2_with fail
        go_meet
        case rel => exact ⟨by rw [hf.out], hB.trans ((below_drewN _ _).mono hB.size)⟩
  case rest =>
    obtain ⟨rfl, hB5⟩ := hcut
    have hkl := fronts_le s t a b
    obtain ⟨k, hf'⟩ : ∃ k, fronts s t a b = k := ⟨_, rfl⟩
    have hf := Sec.mk hf'
    rw [hf'] at hkl ⊢
    clear hf'
    go_wp2_with fail
    have hka : (k : Int) ≤ (a.length : Int) := by omega
    have hkb : (k : Int) ≤ (b.length : Int) := by omega
    have hw1 : IntKind.i64.wrap ((m : Int) - (k : Int)) = (m : Int) - (k : Int) := IntWalk.i64_in _ (by omega)
    go_loopg [12] (a.length - k) (fun n iv wr2 => ∃ e : Nat, iv = .int .i64 e ∧ Sec (k + e + n = a.length) ∧ Sec (ends s t k a b = e + fronts s t ((a.drop k).reverse.drop e) ((b.drop k).reverse.drop e)) ∧ Below w.heap.size w wr2)
    case atStart => exact ⟨0, rfl, ⟨by omega⟩, ⟨by simp [ends]⟩, hB5⟩
    case round =>
      obtain ⟨e, rfl, hk, hE, hB6⟩ := hrel
      by_cases hlt : k + e < m
      · have h1 : k + e < a.length := by omega
        have h2 : k + e < b.length := by omega
        have hi0 : (e : Int) < (m : Int) - (k : Int) := by omega
        obtain ⟨j1, hj1⟩ : ∃ j : Nat, (a.length : Int) - 1 - (e : Int) = (j : Int) := ⟨a.length - 1 - e, by omega⟩
        obtain ⟨j2, hj2⟩ : ∃ j : Nat, (b.length : Int) - 1 - (e : Int) = (j : Int) := ⟨b.length - 1 - e, by omega⟩
        have hi1 : (e : Int) < (a.length : Int) - (k : Int) := by omega
        have hi2 : (e : Int) < (b.length : Int) - (k : Int) := by omega
        have hk0 : (0 : Int) ≤ (j1 : Int) := by omega
        have hk1 : (0 : Int) ≤ (j2 : Int) := by omega
        have hk2 : (j1 : Int) < (a.length : Int) := by omega
        have hk3 : (j2 : Int) < (b.length : Int) := by omega
        have hw3 : IntKind.i64.wrap ((a.length : Int) - 1) = (a.length : Int) - 1 := IntWalk.i64_in _ (by omega)
        have hw4 : IntKind.i64.wrap ((b.length : Int) - 1) = (b.length : Int) - 1 := IntWalk.i64_in _ (by omega)
        have hw5 : IntKind.i64.wrap ((a.length : Int) - 1 - (e : Int)) = (j1 : Int) := (IntWalk.i64_in _ (by omega)).trans hj1
        have hw6 : IntKind.i64.wrap ((b.length : Int) - 1 - (e : Int)) = (j2 : Int) := (IntWalk.i64_in _ (by omega)).trans hj2
        have hw7 : IntKind.i64.wrap (j1 : Int) = (j1 : Int) := IntWalk.i64_in _ (by omega)
        have hw8 : IntKind.i64.wrap (j2 : Int) = (j2 : Int) := IntWalk.i64_in _ (by omega)
        have hq1 : j1 < a.length := by omega
        have hq2 : j2 < b.length := by omega
        have hz1 : a.length - 1 - e = j1 := by omega
        have hz2 : b.length - 1 - e = j2 := by omega
        replace hz1 := Sec.mk hz1
        replace hz2 := Sec.mk hz2
        clear hj1 hj2
        cases gk with
        | zero => have := hk.out; omega
        | succ n =>
          have g1 := List.getElem?_eq_getElem hq1
          have g2 := List.getElem?_eq_getElem hq2
          have r1 : (a.drop k).reverse[e]? = some a[j1] := by rw [back_get (by omega), hz1.out]; exact g1
          have r2 : (b.drop k).reverse[e]? = some b[j2] := by rw [back_get (by omega), hz2.out]; exact g2
          obtain ⟨q1, c1, e1, l1, x0, x1⟩ := span_at hva'.out g1
          obtain ⟨q2, c2, e2, l2, y0, y1⟩ := span_at hvb'.out g2
          injection e1 with e1 _ e1'
          injection e2 with e2 _ e2'
          subst e1 e1' e2 e2'
          obtain ⟨i1, i2⟩ := ha'.out _ (List.getElem_mem hq1)
          obtain ⟨i3, i4⟩ := hb'.out _ (List.getElem_mem hq2)
          have hF := Sec.mk (fronts_step (s := s) (t := t) r1 r2)
          generalize a[j1] = x at *
          generalize b[j2] = y at *
          clear g1 g2 r1 r2
          obtain ⟨xa, xb⟩ := x
          obtain ⟨ya, yb⟩ := y
          dsimp only at *
          have hS1 := hold4 ⟨x0, x1, y0, y1⟩ hB6.drew
          clear x0 x1 y0 y1
          go_wp2_with fail
          go_region_held3 (fun w' => w'.cell? ⟨q1, j1 * 2, none⟩ = some (.int .i64 xa) ∧ w'.cell? ⟨q1, j1 * 2 + 1, none⟩ = some (.int .i64 xb) ∧ w'.cell? ⟨q2, j2 * 2, none⟩ = some (.int .i64 ya) ∧ w'.cell? ⟨q2, j2 * 2 + 1, none⟩ = some (.int .i64 yb))
            (first | with_reducible exact hS4 | with_reducible exact hS3 | with_reducible exact hS1 | fail)
            (first | (go_at_call 44; refine (piece_any s xa xb i1 i2 hs _).mono ?_; rintro e W3 ⟨rfl, hB3⟩; have hS3 := hold4 hS1 hB3) | (go_at_call 44; refine (piece_any t ya yb i3 i4 ht _).mono ?_; rintro e W4 ⟨rfl, hB4⟩; have hS4 := hold4 hS3 hB4))
          have hB7 : Below w.heap.size w W4 := (hB6.drew.trans (hB3.mono hB6.size)).trans (hB4.mono (by have := hB3.size; have := hB6.size; simp at *; omega))
          clear hS1 hS3 hS4 hB3 hB4
          go_wp2_with fail
          · have hq : ((s.extract xa xb).toList == (t.extract ya yb).toList) = true := ‹((s.extract xa xb).toList == (t.extract ya yb).toList) = true›
            replace hF := Sec.mk (hF.out.trans (if_pos hq))
            go_roundg n
            case measure => omega
            case rel => exact ⟨e + 1, by rw [show ((e + 1 : Nat) : Int) = (e : Int) + 1 from by omega], ⟨by have := hk.out; omega⟩, ⟨by have := hE.out; have := hF.out; omega⟩, hB7⟩
          · have hq : ((s.extract xa xb).toList == (t.extract ya yb).toList) = false := ‹((s.extract xa xb).toList == (t.extract ya yb).toList) = false›
            replace hF := Sec.mk (hF.out.trans (if_neg (by show ¬ ((s.extract xa xb).toList == (t.extract ya yb).toList) = true; rw [hq]; decide)))
            have hg : ends s t k a b = e := by have := hE.out; have := hF.out; omega
            rw [← e0.out, hf.out, hg]
            exact ⟨rfl, hB7⟩
      · have hg : ends s t k a b = e := by have := hE.out; rw [fronts_end (by have := hm.out; simp; omega)] at this; omega
        have hki : ¬ (e : Int) < (m : Int) - (k : Int) := by omega
        have hkd : decide ((e : Int) < (m : Int) - (k : Int)) = false := by simp; omega
        go_wp2_with fail
        go_quiet (fail)
        go_wp2_with fail
        rw [← e0.out, hf.out, hg]
        exact ⟨rfl, hB6.trans ((below_drewN _ _).mono hB6.size)⟩
end Go.Proofs.Ytkiijfgoaeiphaa

/- reparse.Changed. -/
set_option linter.unusedVariables false
set_option linter.unusedSimpArgs false
namespace Go.Proofs.Ytkiijfgoaeiphaa
open Go.RowKit
attribute [local go_sem ↓] Go.wp_at_zero Go.wp_at_succ

theorem spans_len (s : ByteArray) : (spans s).length ≤ s.size := Nat.le_trans (by have := spansL_len s (lex s) none; simpa [spans] using this) (lex_len s)
/-- How many pieces are the same at the front, and of the others at the end. -/
def front (s t : ByteArray) : Nat := fronts s t (spans s) (spans t)
def rear (s t : ByteArray) : Nat := ends s t (front s t) (spans s) (spans t)
theorem front_le (s t : ByteArray) : front s t ≤ (spans s).length ∧ front s t ≤ (spans t).length := fronts_le _ _ _ _
theorem rear_le (s t : ByteArray) : front s t + rear s t ≤ (spans s).length ∧ front s t + rear s t ≤ (spans t).length := by
  have h1 := front_le s t
  have h2 := fronts_le s t ((spans s).drop (front s t)).reverse ((spans t).drop (front s t)).reverse
  simp only [List.length_reverse, List.length_drop] at h2
  unfold rear ends
  omega

set_option maxHeartbeats 1000000 in
theorem changed_any (s t : ByteArray) (hs : s.size ≤ 100000000) (ht : t.size ≤ 100000000) (w : World) : Calls Try.prog 18 #[.string s, .string t] w fun e w' =>
    e = .returned (.tuple #[.int .i64 (front s t), .int .i64 (rear s t), .int .i64 ((spans t).length - front s t - rear s t)]) ∧ Below w.heap.size w w' := by
  generalize hPost : (fun (e : Ending) (w' : World) => e = .returned (.tuple #[.int .i64 (front s t), .int .i64 (rear s t), .int .i64 ((spans t).length - front s t - rear s t)]) ∧ Below w.heap.size w w') = Post
  have e0 := Sec.mk hPost
  clear hPost
  have hls := spans_len s
  have hlt := spans_len t
  have hr := rear_le s t
  have hl63 : ((spans t).length : Int) ≤ 100000000 := by omega
  have hw1 : IntKind.i64.wrap (((spans t).length : Int) - (front s t : Int)) = ((spans t).length : Int) - (front s t : Int) := IntWalk.i64_in _ (by omega)
  have hw2 : IntKind.i64.wrap (((spans t).length : Int) - (front s t : Int) - (rear s t : Int)) = ((spans t).length : Int) - (front s t : Int) - (rear s t : Int) := IntWalk.i64_in _ (by omega)
  go_enter Try.func18, Try.ntmps18
  go_wp2_with fail
  refine (pieces_any s hs _).mono ?_
  rintro e W1 ⟨v1, rfl, h1, hB1⟩
  obtain ⟨a1, c1, hv⟩ := own_shape h1
  subst hv
  go_wp2_with fail
  refine (pieces_any t ht _).mono ?_
  rintro e W2 ⟨v2, rfl, h2, hB2⟩
  obtain ⟨a2, c2, hv⟩ := own_shape h2
  subst hv
  have h1' := ownsRow_of_heap h1 fun k hk => hB2.block k (h1.lt k hk).2
  have hB := hB1.trans (hB2.mono hB1.size)
  clear h1 hB1 hB2
  go_wp2_with fail
  refine (kept_any s t hs ht (spans s) (spans t) (spans_ok s) (spans_ok t) _ _ _ _ _ h1' h2 (by omega) (by omega)).mono ?_
  rintro e W3 ⟨rfl, hB3⟩
  have hB4 := hB.trans (hB3.mono hB.size)
  have hf : Sec (fronts s t (spans s) (spans t) = front s t) := ⟨rfl⟩
  have hg : Sec (ends s t (front s t) (spans s) (spans t) = rear s t) := ⟨rfl⟩
  rw [hf.out, hg.out]
  clear h1' h2 hB hB3
  go_wp2_with fail
  refine bodyPost_ret (v := .tuple #[.int .i64 (front s t), .int .i64 (rear s t), .int .i64 ((spans t).length - front s t - rear s t)]) (by simp [results, Try.results18, go_sem]) rfl ?_
  rw [← e0.out]
  exact ⟨rfl, hB4⟩
end Go.Proofs.Ytkiijfgoaeiphaa

/- Lists of numbers, of nodes, of declarations that are read, wherever they lie. -/
set_option linter.unusedVariables false
set_option linter.unusedSimpArgs false
namespace Go.Proofs.Ytkiijfgoaeiphaa
open Go.RowKit

def KidsR (W : World) (v : Value) (xs : List Int) : Prop :=
  ∃ ad c, v = .slice ad xs.length c ∧ xs.length ≤ maxLen ∧ (xs ≠ [] → ∃ b o, ad = some ⟨b, o, none⟩ ∧ ∀ j x, xs[j]? = some x → W.cell? ⟨b, o + j, none⟩ = some (.int .i64 x))
def NodesR (W : World) (v : Value) (ns : List Nd) : Prop :=
  ∃ ad c, v = .slice ad ns.length c ∧ ns.length ≤ maxLen ∧ (ns ≠ [] → ∃ b o, ad = some ⟨b, o, none⟩ ∧ ∀ j n, ns[j]? = some n →
    W.cell? ⟨b, o + j * 6, none⟩ = some (.int .i64 n.kind) ∧ W.cell? ⟨b, o + j * 6 + 1, none⟩ = some (.int .i64 n.lo) ∧ W.cell? ⟨b, o + j * 6 + 2, none⟩ = some (.int .i64 n.hi) ∧ W.cell? ⟨b, o + j * 6 + 3, none⟩ = some (.int .i64 n.num) ∧ W.cell? ⟨b, o + j * 6 + 4, none⟩ = some (.string n.name) ∧ ∃ kv, W.cell? ⟨b, o + j * 6 + 5, none⟩ = some kv ∧ KidsR W kv n.kids)
def DeclsR (W : World) (v : Value) (l : List Dc) : Prop :=
  ∃ ad c, v = .slice ad l.length c ∧ l.length ≤ maxLen ∧ (l ≠ [] → ∃ b o, ad = some ⟨b, o, none⟩ ∧ ∀ j d, l[j]? = some d →
    W.cell? ⟨b, o + j * 6, none⟩ = some (.int .i64 d.lo) ∧ W.cell? ⟨b, o + j * 6 + 1, none⟩ = some (.int .i64 d.hi) ∧ (∃ nv, W.cell? ⟨b, o + j * 6 + 2, none⟩ = some nv ∧ NodesR W nv d.nodes) ∧ W.cell? ⟨b, o + j * 6 + 3, none⟩ = some (.int .i64 d.flt.code) ∧ W.cell? ⟨b, o + j * 6 + 4, none⟩ = some (.int .i64 d.flt.lo) ∧ W.cell? ⟨b, o + j * 6 + 5, none⟩ = some (.int .i64 d.flt.hi))

/-- All cells that there are stay. -/
def Stays (W W' : World) : Prop := ∀ a v, W.cell? a = some v → W'.cell? a = some v
theorem below_stays {W W' : World} (h : Below W.heap.size W W') : Stays W W' := fun a v hv => (World.cell?_of_block (h.block _ (World.block_lt_of_cell? W _ hv))).trans hv
theorem KidsR.stay {W W' : World} {v : Value} {xs : List Int} (h : KidsR W v xs) (hs : Stays W W') : KidsR W' v xs := by
  obtain ⟨ad, c, e, h1, h2⟩ := h
  refine ⟨ad, c, e, h1, fun hne => ?_⟩
  obtain ⟨b, o, e1, hc⟩ := h2 hne
  exact ⟨b, o, e1, fun j x hj => hs _ _ (hc j x hj)⟩
theorem NodesR.stay {W W' : World} {v : Value} {ns : List Nd} (h : NodesR W v ns) (hs : Stays W W') : NodesR W' v ns := by
  obtain ⟨ad, c, e, h1, h2⟩ := h
  refine ⟨ad, c, e, h1, fun hne => ?_⟩
  obtain ⟨b, o, e1, hc⟩ := h2 hne
  refine ⟨b, o, e1, fun j n hj => ?_⟩
  obtain ⟨a0, a1, a2, a3, a4, kv, a5, a6⟩ := hc j n hj
  exact ⟨hs _ _ a0, hs _ _ a1, hs _ _ a2, hs _ _ a3, hs _ _ a4, kv, hs _ _ a5, a6.stay hs⟩
theorem DeclsR.stay {W W' : World} {v : Value} {l : List Dc} (h : DeclsR W v l) (hs : Stays W W') : DeclsR W' v l := by
  obtain ⟨ad, c, e, h1, h2⟩ := h
  refine ⟨ad, c, e, h1, fun hne => ?_⟩
  obtain ⟨b, o, e1, hc⟩ := h2 hne
  refine ⟨b, o, e1, fun j n hj => ?_⟩
  obtain ⟨a0, a1, ⟨nv, a2, a6⟩, a3, a4, a5⟩ := hc j n hj
  exact ⟨hs _ _ a0, hs _ _ a1, ⟨nv, hs _ _ a2, a6.stay hs⟩, hs _ _ a3, hs _ _ a4, hs _ _ a5⟩
theorem KidsIn.reads {W : World} {L : Nat → Prop} {v : Value} {xs : List Int} (h : KidsIn W L v xs) : KidsR W v xs := by
  obtain ⟨ad, c, e, h1, h2, h3⟩ := h
  refine ⟨ad, c, e, Nat.le_trans h1 h2, fun hne => ?_⟩
  obtain ⟨b, o, cur, fr, e1, _, hb, hc⟩ := h3 hne
  exact ⟨b, o, e1, fun j x hj => by rw [cell_of_row _ _ _ _ _ _ hb]; exact hc j x hj⟩
theorem own_len {W : World} {base : Nat} {e : TypeId} {size : Nat} {v : Value} {n : Nat} {xs : List Value} (h : W.ownsRow base e size v n xs) : n ≤ maxLen := by
  rcases h.2 with ⟨_, h0⟩ | ⟨g, cap, cur, _, _, _, h1, h2, _⟩
  · omega
  · exact Nat.le_trans h1 h2
theorem nds_reads {W : World} {base : Nat} {L : Nat → Prop} {v : Value} {ns : List Nd} {cs : List Value} (h1 : W.ownsRow base 53 6 v ns.length cs) (h2 : NdsIn W L ns cs) : NodesR W v ns := by
  obtain ⟨a, c, e⟩ := own_shape h1
  refine ⟨a, c, e, own_len h1, fun hne => ?_⟩
  obtain ⟨g, cap, e2, _, _, hc⟩ := own_at h1 (List.length_pos_iff.2 hne)
  rw [e] at e2
  injection e2 with e2
  refine ⟨g, 0, e2, fun j n hj => ?_⟩
  obtain ⟨a0, a1, a2, a3, a4, kv, a5, a6⟩ := nd_cells h2 hj
  simp only [Nat.zero_add]
  exact ⟨hc _ _ a0, hc _ _ a1, hc _ _ a2, hc _ _ a3, hc _ _ a4, kv, hc _ _ a5, a6.reads⟩
theorem Given.reads {w W : World} {v : Value} {ns : List Nd} (h : Given w W v ns) : NodesR W v ns := by
  obtain ⟨cs, h1, h2⟩ := h
  exact nds_reads h1 h2
theorem DeclsAt.reads {w W : World} {v : Value} {l : List (Dc × Value)} (h : DeclsAt w W v l) : DeclsR W v (l.map (·.1)) := by
  obtain ⟨a, c, e⟩ := own_shape h.own
  refine ⟨a, c, by rw [List.length_map]; exact e, by rw [List.length_map]; exact own_len h.own, fun hne => ?_⟩
  obtain ⟨g, cap, e2, _, _, _⟩ := own_at h.own (by cases l with | nil => simp at hne | cons => simp)
  rw [e] at e2
  injection e2 with e2 _ e3
  subst e2 e3 e
  refine ⟨g, 0, rfl, fun j d hj => ?_⟩
  rw [List.getElem?_map] at hj
  cases hp : l[j]? with
  | none => rw [hp] at hj; cases hj
  | some p =>
    rw [hp] at hj
    injection hj with hj
    subst hj
    obtain ⟨a0, a1, a2, a3, a4, a5⟩ := h.decl hp
    simp only [Nat.zero_add]
    exact ⟨a0, a1, ⟨_, a2, (h.given p (List.mem_of_getElem? hp)).reads⟩, a3, a4, a5⟩
end Go.Proofs.Ytkiijfgoaeiphaa

/- SameInts, SameNodes, SameDecl, SameDecls: where both are the same. -/
set_option linter.unusedVariables false
set_option linter.unusedSimpArgs false
namespace Go.Proofs.Ytkiijfgoaeiphaa
open Go.RowKit
attribute [local go_sem ↓] Go.wp_at_zero Go.wp_at_succ

def PostYes (w : World) (e : Ending) (w' : World) : Prop := e = .returned (.bool true) ∧ Below w.heap.size w w'

set_option maxHeartbeats 1000000 in
theorem sameInts_any (xs : List Int) (u v : Value) (w : World) (hu : KidsR w u xs) (hv : KidsR w v xs) : Calls Try.prog 58 #[u, v] w (PostYes w) := by
  generalize hPost : PostYes w = Post
  have e0 := Sec.mk hPost
  clear hPost
  obtain ⟨ua, uc, rfl, hm, hu2⟩ := hu
  obtain ⟨va, vc, rfl, _, hv2⟩ := hv
  unfold maxLen at hm
  have hm' : (xs.length : Int) ≤ 9223372036854775807 := by omega
  have hu' := Sec.mk hu2
  have hv' := Sec.mk hv2
  clear hu2 hv2
  go_enter Try.func58, Try.ntmps58
  go_wp2_with fail
  go_loopg [5] xs.length (fun n iv wr => ∃ k : Nat, iv = .int .i64 k ∧ Sec (k + n = xs.length) ∧ Below w.heap.size w wr)
  case atStart => exact ⟨0, rfl, ⟨by omega⟩, Below.refl _ _⟩
  case round =>
    obtain ⟨k, rfl, hk, hB⟩ := hrel
    by_cases hlt : k < xs.length
    · have hki : (k : Int) < (xs.length : Int) := by omega
      have hk0 : (0 : Int) ≤ (k : Int) := by omega
      have hw1 : IntKind.i64.wrap ((k : Int) + 1) = (k : Int) + 1 := IntWalk.i64_in _ (by omega)
      cases gk with
      | zero => have := hk.out; omega
      | succ n =>
        have hne : xs ≠ [] := by intro e; rw [e] at hlt; simp at hlt
        obtain ⟨ub, uo, rfl, huc⟩ := hu'.out hne
        obtain ⟨vb, vo, rfl, hvc⟩ := hv'.out hne
        have hg := List.getElem?_eq_getElem hlt
        have t1 := below_stays hB _ _ (huc k _ hg)
        have t2 := below_stays hB _ _ (hvc k _ hg)
        clear huc hvc hg hne
        generalize xs[k] = x at *
        go_wp2_with fail
        go_quiet (fail)
        go_wp2_with fail
        go_roundg n
        case measure => omega
        case rel => exact ⟨k + 1, by rw [show ((k + 1 : Nat) : Int) = (k : Int) + 1 from by omega], ⟨by have := hk.out; omega⟩, hB.trans ((below_drewN _ _).mono hB.size)⟩
    · have hki : ¬ (k : Int) < (xs.length : Int) := by omega
      go_wp2_with fail
      rw [← e0.out]
      exact ⟨rfl, hB⟩

set_option maxRecDepth 100000 in
set_option maxHeartbeats 2000000 in
theorem sameNodes_any (xs : List Nd) (u v : Value) (w : World) (hu : NodesR w u xs) (hv : NodesR w v xs) : Calls Try.prog 42 #[u, v] w (PostYes w) := by
  generalize hPost : PostYes w = Post
  have e0 := Sec.mk hPost
  clear hPost
  obtain ⟨ua, uc, rfl, hm, hu2⟩ := hu
  obtain ⟨va, vc, rfl, _, hv2⟩ := hv
  unfold maxLen at hm
  have hm' : (xs.length : Int) ≤ 9223372036854775807 := by omega
  have hu' := Sec.mk hu2
  have hv' := Sec.mk hv2
  clear hu2 hv2
  go_enter Try.func42, Try.ntmps42
  go_wp2_with fail
  go_loopg [5, 6, 7] xs.length (fun n iv _ _ wr => ∃ k : Nat, iv = .int .i64 k ∧ Sec (k + n = xs.length) ∧ Below w.heap.size w wr)
  case atStart => exact ⟨0, rfl, ⟨by omega⟩, Below.refl _ _⟩
  case round =>
    obtain ⟨k, rfl, hk, hB⟩ := hrel
    by_cases hlt : k < xs.length
    · have hki : (k : Int) < (xs.length : Int) := by omega
      have hk0 : (0 : Int) ≤ (k : Int) := by omega
      have hw1 : IntKind.i64.wrap ((k : Int) + 1) = (k : Int) + 1 := IntWalk.i64_in _ (by omega)
      cases gk with
      | zero => have := hk.out; omega
      | succ n =>
        have hne : xs ≠ [] := by intro e; rw [e] at hlt; simp at hlt
        obtain ⟨ub, uo, rfl, huc⟩ := hu'.out hne
        obtain ⟨vb, vo, rfl, hvc⟩ := hv'.out hne
        have hg := List.getElem?_eq_getElem hlt
        obtain ⟨a0, a1, a2, a3, a4, kv, a5, a6⟩ := huc k _ hg
        obtain ⟨b0, b1, b2, b3, b4, kw, b5, b6⟩ := hvc k _ hg
        have hst : Stays w wr := below_stays hB
        replace a0 := hst _ _ a0
        replace a1 := hst _ _ a1
        replace a2 := hst _ _ a2
        replace a3 := hst _ _ a3
        replace a4 := hst _ _ a4
        replace a5 := hst _ _ a5
        replace b0 := hst _ _ b0
        replace b1 := hst _ _ b1
        replace b2 := hst _ _ b2
        replace b3 := hst _ _ b3
        replace b4 := hst _ _ b4
        replace b5 := hst _ _ b5
        have hK1 := Sec.mk (a6.stay hst)
        have hK2 := Sec.mk (b6.stay hst)
        obtain ⟨ka, kc, e, _⟩ := a6
        subst e
        obtain ⟨la, lc, e, _⟩ := b6
        subst e
        clear huc hvc hg hne hst
        generalize xs[k] = x at *
        obtain ⟨xk, xl, xh, xn, xm, xi⟩ := x
        simp only at a0 a1 a2 a3 a4 a5 b0 b1 b2 b3 b4 b5 hK1 hK2
        have hq : (xm.toList == xm.toList) = true := beq_self_eq_true _
        have hub := World.block_lt_of_cell? wr _ a0
        have hvb := World.block_lt_of_cell? wr _ b0
        dsimp only at hub hvb
        have hub' : ub ≠ wr.heap.size := by omega
        have hvb' : vb ≠ wr.heap.size := by omega
        go_wp2_with fail
        refine (sameInts_any xi _ _ _ (hK1.out.stay (below_stays (((Below.refl _ wr).alloc (Nat.le_refl _) _).alloc (by simp) _))) (hK2.out.stay (below_stays (((Below.refl _ wr).alloc (Nat.le_refl _) _).alloc (by simp) _)))).mono ?_
        rintro e W1 ⟨rfl, hB1⟩
        have hB2 := ((hB.alloc hB.size _).alloc (by have := hB.size; simp; omega) _).trans (hB1.mono (by have := hB.size; simp; omega))
        clear hB1 a0 a1 a2 a3 a4 a5 b0 b1 b2 b3 b4 b5
        go_wp2_with fail
        go_roundg n
        case measure => omega
        case rel => exact ⟨k + 1, by rw [show ((k + 1 : Nat) : Int) = (k : Int) + 1 from by omega], ⟨by have := hk.out; omega⟩, hB2⟩
    · have hki : ¬ (k : Int) < (xs.length : Int) := by omega
      go_wp2_with fail
      rw [← e0.out]
      exact ⟨rfl, hB⟩

abbrev dcVal (d : Dc) (nv : Value) : Value := .agg #[.int .i64 d.lo, .int .i64 d.hi, nv, .int .i64 d.flt.code, .int .i64 d.flt.lo, .int .i64 d.flt.hi]
set_option maxHeartbeats 2000000 in
theorem sameDecl_any (d : Dc) (u v : Value) (w : World) (hu : NodesR w u d.nodes) (hv : NodesR w v d.nodes) : Calls Try.prog 26 #[dcVal d u, dcVal d v] w (PostYes w) := by
  generalize hPost : PostYes w = Post
  have e0 := Sec.mk hPost
  clear hPost
  obtain ⟨dl, dh, dn, ⟨dc, df, dt⟩⟩ := d
  have hK1 := Sec.mk hu
  have hK2 := Sec.mk hv
  obtain ⟨ua, uc, rfl, _⟩ := hu
  obtain ⟨va, vc, rfl, _⟩ := hv
  dsimp only
  go_enter Try.func26, Try.ntmps26
  go_wp2_with fail
  refine (sameNodes_any dn _ _ _ (hK1.out.stay (below_stays (((Below.refl _ w).alloc (Nat.le_refl _) _).alloc (by simp) _))) (hK2.out.stay (below_stays (((Below.refl _ w).alloc (Nat.le_refl _) _).alloc (by simp) _)))).mono ?_
  rintro e W1 ⟨rfl, hB1⟩
  have hB2 := (((Below.refl _ w).alloc (Nat.le_refl _) _).alloc (by simp) _).trans (hB1.mono (by simp; omega))
  clear hB1
  go_wp2_with fail
  rw [← e0.out]
  exact ⟨rfl, hB2⟩

theorem stay4 {W W' : World} {a b c d : Addr} {x y z u : Value} (h : W.cell? a = some x ∧ W.cell? b = some y ∧ W.cell? c = some z ∧ W.cell? d = some u) (hB : Stays W W') : W'.cell? a = some x ∧ W'.cell? b = some y ∧ W'.cell? c = some z ∧ W'.cell? d = some u :=
  ⟨hB _ _ h.1, hB _ _ h.2.1, hB _ _ h.2.2.1, hB _ _ h.2.2.2⟩
set_option maxRecDepth 100000 in
set_option maxHeartbeats 2000000 in
theorem sameDecls_any (xs : List Dc) (u v : Value) (w : World) (hu : DeclsR w u xs) (hv : DeclsR w v xs) : Calls Try.prog 13 #[u, v] w (PostYes w) := by
  generalize hPost : PostYes w = Post
  have e0 := Sec.mk hPost
  clear hPost
  obtain ⟨ua, uc, rfl, hm, hu2⟩ := hu
  obtain ⟨va, vc, rfl, _, hv2⟩ := hv
  unfold maxLen at hm
  have hm' : (xs.length : Int) ≤ 9223372036854775807 := by omega
  have hu' := Sec.mk hu2
  have hv' := Sec.mk hv2
  clear hu2 hv2
  go_enter Try.func13, Try.ntmps13
  go_wp2_with fail
  go_loopg [5] xs.length (fun n iv wr => ∃ k : Nat, iv = .int .i64 k ∧ Sec (k + n = xs.length) ∧ Below w.heap.size w wr)
  case atStart => exact ⟨0, rfl, ⟨by omega⟩, Below.refl _ _⟩
  case round =>
    obtain ⟨k, rfl, hk, hB⟩ := hrel
    by_cases hlt : k < xs.length
    · have hki : (k : Int) < (xs.length : Int) := by omega
      have hk0 : (0 : Int) ≤ (k : Int) := by omega
      have hw1 : IntKind.i64.wrap ((k : Int) + 1) = (k : Int) + 1 := IntWalk.i64_in _ (by omega)
      cases gk with
      | zero => have := hk.out; omega
      | succ n =>
        have hne : xs ≠ [] := by intro e; rw [e] at hlt; simp at hlt
        obtain ⟨ub, uo, rfl, huc⟩ := hu'.out hne
        obtain ⟨vb, vo, rfl, hvc⟩ := hv'.out hne
        have hg := List.getElem?_eq_getElem hlt
        have hst : Stays w wr := below_stays hB
        obtain ⟨a0, a1, ⟨nu, a2, a6⟩, a3, a4, a5⟩ := huc k _ hg
        obtain ⟨b0, b1, ⟨nv, b2, b6⟩, b3, b4, b5⟩ := hvc k _ hg
        have hK1 := Sec.mk (a6.stay hst)
        have hK2 := Sec.mk (b6.stay hst)
        obtain ⟨ka, kc, e, _⟩ := a6
        subst e
        obtain ⟨la, lc, e, _⟩ := b6
        subst e
        have s1 := stay4 ⟨a0, a1, a2, a3⟩ hst
        have s2 := stay4 ⟨b0, b1, b2, b3⟩ hst
        have s3 := stay4 ⟨a4, a5, b4, b5⟩ hst
        clear huc hvc hg hne hst a0 a1 a2 a3 a4 a5 b0 b1 b2 b3 b4 b5
        generalize xs[k] = x at *
        obtain ⟨dl, dh, dn, ⟨dc, df, dt⟩⟩ := x
        simp only at s1 s2 s3 hK1 hK2
        have hS1 : (wr.drew.cell? ⟨ub, uo + k * 6, none⟩ = some (.int .i64 dl) ∧ wr.drew.cell? ⟨ub, uo + k * 6 + 1, none⟩ = some (.int .i64 dh) ∧ wr.drew.cell? ⟨ub, uo + k * 6 + 2, none⟩ = some (.slice ka dn.length kc) ∧ wr.drew.cell? ⟨ub, uo + k * 6 + 3, none⟩ = some (.int .i64 dc)) ∧ (wr.drew.cell? ⟨vb, vo + k * 6, none⟩ = some (.int .i64 dl) ∧ wr.drew.cell? ⟨vb, vo + k * 6 + 1, none⟩ = some (.int .i64 dh) ∧ wr.drew.cell? ⟨vb, vo + k * 6 + 2, none⟩ = some (.slice la dn.length lc) ∧ wr.drew.cell? ⟨vb, vo + k * 6 + 3, none⟩ = some (.int .i64 dc)) ∧ (wr.drew.cell? ⟨ub, uo + k * 6 + 4, none⟩ = some (.int .i64 df) ∧ wr.drew.cell? ⟨ub, uo + k * 6 + 5, none⟩ = some (.int .i64 dt) ∧ wr.drew.cell? ⟨vb, vo + k * 6 + 4, none⟩ = some (.int .i64 df) ∧ wr.drew.cell? ⟨vb, vo + k * 6 + 5, none⟩ = some (.int .i64 dt)) := ⟨s1, s2, s3⟩
        clear s1 s2 s3
        go_wp2_with fail
        go_region_held3 (fun w' => (w'.cell? ⟨ub, uo + k * 6, none⟩ = some (.int .i64 dl) ∧ w'.cell? ⟨ub, uo + k * 6 + 1, none⟩ = some (.int .i64 dh) ∧ w'.cell? ⟨ub, uo + k * 6 + 2, none⟩ = some (.slice ka dn.length kc) ∧ w'.cell? ⟨ub, uo + k * 6 + 3, none⟩ = some (.int .i64 dc)) ∧ (w'.cell? ⟨vb, vo + k * 6, none⟩ = some (.int .i64 dl) ∧ w'.cell? ⟨vb, vo + k * 6 + 1, none⟩ = some (.int .i64 dh) ∧ w'.cell? ⟨vb, vo + k * 6 + 2, none⟩ = some (.slice la dn.length lc) ∧ w'.cell? ⟨vb, vo + k * 6 + 3, none⟩ = some (.int .i64 dc)) ∧ (w'.cell? ⟨ub, uo + k * 6 + 4, none⟩ = some (.int .i64 df) ∧ w'.cell? ⟨ub, uo + k * 6 + 5, none⟩ = some (.int .i64 dt) ∧ w'.cell? ⟨vb, vo + k * 6 + 4, none⟩ = some (.int .i64 df) ∧ w'.cell? ⟨vb, vo + k * 6 + 5, none⟩ = some (.int .i64 dt)))
          (first | with_reducible exact hS3 | with_reducible exact hS1 | fail)
          (first | (go_at_call 26; refine (sameDecl_any ⟨dl, dh, dn, ⟨dc, df, dt⟩⟩ _ _ _ (hK1.out.stay (below_stays (Below.refl _ wr).drew)) (hK2.out.stay (below_stays (Below.refl _ wr).drew))).mono ?_; rintro e W1 ⟨rfl, hB1⟩; have hS3 := (show _ ∧ _ ∧ _ from ⟨stay4 hS1.1 (below_stays hB1), stay4 hS1.2.1 (below_stays hB1), stay4 hS1.2.2 (below_stays hB1)⟩)))
        have hB2 := hB.drew.trans (hB1.mono (by have := hB.size; simp; omega))
        clear hB1 hS1 hS3
        go_wp2_with fail
        go_roundg n
        case measure => omega
        case rel => exact ⟨k + 1, by rw [show ((k + 1 : Nat) : Int) = (k : Int) + 1 from by omega], ⟨by have := hk.out; omega⟩, hB2⟩
    · have hki : ¬ (k : Int) < (xs.length : Int) := by omega
      go_wp2_with fail
      rw [← e0.out]
      exact ⟨rfl, hB⟩
end Go.Proofs.Ytkiijfgoaeiphaa

/- Plain: the tokens, the spans, the declarations of two texts with ";;" between. -/
set_option linter.unusedVariables false
set_option linter.unusedSimpArgs false
namespace Go.Proofs.Ytkiijfgoaeiphaa

theorem lexF_fuel : ∀ (n k : Nat) (l : Bs), l.length ≤ n → lexF n k l = lexF l.length k l := by
  intro n
  induction n using Nat.strongRecOn with
  | _ n ih =>
    intro k l h
    cases l with
    | nil => cases n <;> rfl
    | cons c r =>
      cases n with
      | zero => simp at h
      | succ n =>
        simp only [List.length_cons] at h ⊢
        have key : ∀ (j : Nat) (q : Bs), q.length ≤ r.length → lexF n j q = lexF r.length j q := fun j q hq => by
          rw [ih n (Nat.lt_succ_self _) j q (by omega)]
          by_cases hn : r.length < n + 1
          · rw [ih r.length hn j q hq]
          · omega
        have hd : ∀ m, 1 ≤ m → ((c :: r).drop m).length ≤ r.length := fun m hm => by simp; omega
        rw [lexF, lexF]
        split
        · exact key _ _ (Nat.le_refl _)
        · split
          · rename_i h2
            split
            · exact key _ _ (hd _ (Nat.le_trans (by decide) (remark_two h2)))
            · rfl
          · split
            · rw [key _ _ (hd _ (by omega))]
            · rw [key _ _ (hd _ (by omega))]
def shiftT (d : Nat) (t : Tok) : Tok := ⟨t.kind, t.lo + d, t.hi + d⟩
theorem lexF_shift (d : Nat) : ∀ (n k : Nat) (l : Bs), lexF n (k + d) l = (lexF n k l).map (shiftT d)
  | 0, _, _ => by simp [lexF]
  | _ + 1, _, [] => by simp [lexF]
  | n + 1, k, c :: r => by
    rw [lexF, lexF]
    split
    · rw [show k + d + 1 = k + 1 + d by omega]; exact lexF_shift d n _ _
    · split
      · split
        · rw [show k + d + (remark 0 (c :: r)).1 = k + (remark 0 (c :: r)).1 + d by omega]; exact lexF_shift d n _ _
        · simp [shiftT]; omega
      · split
        · rw [show k + d + (nothing r + 1) = k + (nothing r + 1) + d by omega, lexF_shift d n]; simp [shiftT]
        · rw [show k + d + (token (c :: r)).2 = k + (token (c :: r)).2 + d by omega, lexF_shift d n]; simp [shiftT]

section
variable (x : Bs)
theorem opens_app (c : UInt8) (r : Bs) : opens (c :: r ++ 10 :: x) = opens (c :: r) := by
  cases r with
  | nil => simp [opens]
  | cons d r => rfl
theorem closes_app (c : UInt8) (r : Bs) : closes (c :: r ++ 10 :: x) = closes (c :: r) := by
  cases r with
  | nil => simp [closes]
  | cons d r => rfl
theorem remark_app (y : Bs) : ∀ (n : Int) (l : Bs), (remark n l).2 = true → remark n (l ++ y) = remark n l
  | _, [], h => by simp [remark] at h
  | _, [_], h => by simp [remark] at h
  | n, a :: b :: r, h => by
    rw [remark] at h
    show remark n (a :: b :: (r ++ y)) = _
    rw [remark, remark]
    have ho : opens (a :: b :: (r ++ y)) = opens (a :: b :: r) := rfl
    have hc : closes (a :: b :: (r ++ y)) = closes (a :: b :: r) := rfl
    rw [ho, hc]
    split at h
    · rename_i h1
      rw [if_pos h1, if_pos h1, remark_app y (n + 1) r h]
    · rename_i h1
      rw [if_neg h1, if_neg h1]
      split at h
      · rename_i h2
        rw [if_pos h2, if_pos h2]
        split at h
        · rename_i h3; rw [if_pos h3, if_pos h3]
        · rename_i h3; rw [if_neg h3, if_neg h3, remark_app y (n - 1) r h]
      · rename_i h2
        have := remark_app y n (b :: r) h
        rw [if_neg h2, if_neg h2]
        rw [List.cons_append] at this
        rw [this]
termination_by _ l => l.length
theorem count_app (p : Nat → Bool) (hp : p 10 = false) : ∀ l : Bs, count p (l ++ 10 :: x) = count p l
  | [] => by simp [count, hp]
  | c :: r => by rw [List.cons_append, count, count, count_app p hp r]
theorem count_lt (p : Nat → Bool) : ∀ l : Bs, count p l ≤ l.length
  | [] => by simp [count]
  | c :: r => by have := count_lt p r; rw [count]; split <;> simp <;> omega
theorem name10 (b : Bool) : nameByte b 10 = false := by cases b <;> decide
theorem sign_app (c : UInt8) (r : Bs) : sign (c :: r ++ 10 :: x) = sign (c :: r) := by
  cases r with
  | nil =>
    simp only [sign, List.cons_append, List.nil_append]
    have h1 : [[45, 62], [58, 58], [59, 59]].contains ((c :: 10 :: x).take 2) = false := by simp
    have h2 : [[45, 62], [58, 58], [59, 59]].contains ([c].take 2) = false := by simp
    rw [h1, h2]
  | cons d r => simp [sign]
theorem token_app (c : UInt8) (r : Bs) : token (c :: r ++ 10 :: x) = token (c :: r) := by
  have h1 : ∀ b, run b (c :: r ++ 10 :: x) = run b (c :: r) := fun b => count_app x _ (name10 b) _
  have h2 := sign_app x c r
  have h3 : count digit (r ++ 10 :: x) = count digit r := count_app x _ (by decide) _
  have h4 : (c :: (r ++ 10 :: x)).take (run true (c :: r)) = (c :: r).take (run true (c :: r)) := by
    exact List.take_append_of_le_length (l₁ := c :: r) (count_lt _ _)
  rw [List.cons_append] at h1 h2 ⊢
  rw [token.eq_def, token.eq_def (c :: r)]
  dsimp only
  rw [h1, h2, h3, h4]
  cases r with
  | nil => simp only [List.nil_append]; rfl
  | cons d r' =>
    have h5 : run false (d :: r' ++ 10 :: x) = run false (d :: r') := count_app x _ (name10 _) _
    simp only [List.cons_append] at h5 ⊢
    rw [h5]
theorem nothing_app : ∀ r : Bs, nothing (r ++ 10 :: x) = nothing r
  | [] => by simp [nothing, white]
  | c :: r => by
    have h1 := opens_app x c r
    have h2 := token_app x c r
    rw [List.cons_append] at h1 h2 ⊢
    rw [nothing, nothing, h1, h2, nothing_app r]
theorem lexF_app : ∀ (n k : Nat) (l : Bs), l.length ≤ n → (∀ t, (lexF n k l).getLast? = some t → t.kind ≠ 7) → ∀ m, (l ++ 10 :: x).length ≤ m → lexF m k (l ++ 10 :: x) = lexF n k l ++ lexF (10 :: x).length (k + l.length) (10 :: x) := by
  intro n
  induction n with
  | zero =>
    intro k l h _ m hm
    have : l = [] := List.eq_nil_of_length_eq_zero (by omega)
    subst this
    rw [lexF_fuel m _ _ hm]; simp [lexF]
  | succ n ih =>
    intro k l h hk m hm
    cases l with
    | nil => rw [lexF_fuel m _ _ hm]; simp [lexF]
    | cons c r =>
      cases m with
      | zero => simp at hm
      | succ m =>
        simp only [List.length_cons] at h
        have hlm : (r ++ 10 :: x).length ≤ m := by simp at hm ⊢; omega
        have ho := opens_app x c r
        have ht := token_app x c r
        have hnt := nothing_app x r
        have hdrop : ∀ q, q ≤ (c :: r).length → (c :: r ++ 10 :: x).drop q = (c :: r).drop q ++ 10 :: x := fun q hq => List.drop_append_of_le_length hq
        have step : ∀ q, 1 ≤ q → q ≤ (c :: r).length → (∀ t, (lexF n (k + q) ((c :: r).drop q)).getLast? = some t → t.kind ≠ 7) → lexF m (k + q) ((c :: r ++ 10 :: x).drop q) = lexF n (k + q) ((c :: r).drop q) ++ lexF (10 :: x).length (k + (c :: r).length) (10 :: x) := fun q h1 h2 h3 => by
          rw [hdrop q h2]
          have := ih (k + q) ((c :: r).drop q) (by simp; omega) h3 m (by simp at hlm ⊢; omega)
          rw [this]
          congr 2
          simp at h2 ⊢
          omega
        rw [List.cons_append] at ho ht step ⊢
        have hrm := remark_le 0 (c :: r)
        have htl := token_le (c :: r)
        have hnl := nothing_le r
        rw [lexF] at hk
        rw [lexF, lexF, ho, ht, hnt]
        split
        · rename_i h1
          rw [if_pos h1] at hk
          have := step 1 (Nat.le_refl _) (by simp) hk
          simpa using this
        · rename_i h1
          rw [if_neg h1] at hk
          split
          · rename_i h2
            rw [if_pos h2] at hk
            by_cases h3 : (remark 0 (c :: r)).2 = true
            · rw [if_pos h3] at hk
              have hra := remark_app (10 :: x) 0 (c :: r) h3
              rw [List.cons_append] at hra
              rw [hra, if_pos h3, if_pos h3]
              exact step _ (Nat.le_trans (by decide) (remark_two h2)) hrm hk
            · rw [if_neg h3] at hk
              exact absurd rfl (hk _ rfl)
          · rename_i h2
            rw [if_neg h2] at hk
            split
            · rename_i h3
              rw [if_pos h3] at hk
              rw [step _ (by omega) (by simp; omega) (fun t ht' => hk t (by rw [List.getLast?_cons, ht']; rfl))]
              rfl
            · rename_i h3
              rw [if_neg h3] at hk
              rw [step _ (by omega) htl (fun t ht' => hk t (by rw [List.getLast?_cons, ht']; rfl))]
              rfl
end

/-- The two texts, ";;" between. -/
def joined (s t : ByteArray) : ByteArray := s ++ ⟨#[10, 59, 59, 10]⟩ ++ t
theorem joined_data (s t : ByteArray) : (joined s t).data.toList = s.data.toList ++ 10 :: 59 :: 59 :: 10 :: t.data.toList := by
  simp [joined, ByteArray.data_append]
theorem joined_size (s t : ByteArray) : (joined s t).size = s.size + 4 + t.size := by
  simp only [joined, ByteArray.size_append]
  rfl
theorem lex_sep (k : Nat) (l : Bs) : lexF (10 :: 59 :: 59 :: 10 :: l).length k (10 :: 59 :: 59 :: 10 :: l) = ⟨6, k + 1, k + 3⟩ :: lexF l.length (k + 4) l := by
  have h1 : white (10 : UInt8).toNat = true := by decide
  have h2 : white (59 : UInt8).toNat = false := by decide
  have h3 : opens (59 :: 59 :: 10 :: l) = false := by simp [opens]
  have h4 : token (59 :: 59 :: 10 :: l) = (6, 2) := by
    rw [token.eq_def]; simp [small, great, digit, sign]
  simp only [List.length_cons]
  rw [lexF, if_pos h1, lexF, if_neg (by rw [h2]; decide), if_neg (by rw [h3]; decide), h4, if_neg (by decide)]
  simp only [List.drop_succ_cons, List.drop_zero]
  rw [lexF, if_pos h1, lexF_fuel (l.length + 1) _ l (by omega), show k + 1 + 2 = k + 3 by omega, show k + 3 + 1 = k + 4 by omega]
theorem lex_joined (s t : ByteArray) (h : ∀ x, (lex s).getLast? = some x → x.kind ≠ 7) : lex (joined s t) = lex s ++ ⟨6, s.size + 1, s.size + 3⟩ :: (lex t).map (shiftT (s.size + 4)) := by
  have hl : (joined s t).data.toList.length = (joined s t).size := by simp
  unfold lex
  rw [joined_data]
  rw [lexF_app _ s.size 0 s.data.toList (by simp) h _ (by rw [← joined_data, hl]; exact Nat.le_refl _), lex_sep]
  have e : s.data.toList.length = s.size := by simp
  have e' : t.data.toList.length = t.size := by simp
  rw [e, e', show 0 + s.size + 4 = 0 + (s.size + 4) by omega, lexF_shift, show 0 + s.size + 1 = s.size + 1 by omega, show 0 + s.size + 3 = s.size + 3 by omega]

theorem ba_of {a b : ByteArray} (h : a.data.toList = b.data.toList) : a = b := ByteArray.ext (Array.toList_inj.1 h)
theorem ext_left {s : ByteArray} (t : ByteArray) {lo hi : Nat} (h1 : lo ≤ hi) (h2 : hi ≤ s.size) : (joined s t).extract lo hi = s.extract lo hi := by
  apply ba_of
  rw [ext_toList, ext_toList]
  unfold sfx
  have e : s.data.toList.length = s.size := by simp
  rw [joined_data, List.drop_append_of_le_length (by omega), List.take_append_of_le_length (by rw [List.length_drop]; omega)]
theorem ext_right (s t : ByteArray) (lo hi : Nat) : (joined s t).extract (lo + (s.size + 4)) (hi + (s.size + 4)) = t.extract lo hi := by
  apply ba_of
  rw [ext_toList, ext_toList]
  unfold sfx
  have e : s.data.toList.length = s.size := by simp
  rw [joined_data, show lo + (s.size + 4) = s.data.toList.length + (4 + lo) by omega, List.drop_append, show hi + (s.size + 4) - (s.data.toList.length + (4 + lo)) = hi - lo by omega]
  congr 1
  rw [List.drop_eq_nil_of_le (by omega), List.nil_append, show s.data.toList.length + (4 + lo) - s.data.toList.length = lo + 4 by omega]
  rfl
theorem sep_left {s : ByteArray} (t : ByteArray) {x : Tok} (h1 : x.lo ≤ x.hi) (h2 : x.hi ≤ s.size) : isSep (joined s t) x = isSep s x := by
  unfold isSep tokIs wordOf
  have h3 : x.hi ≤ (joined s t).size := by rw [joined_size]; omega
  rw [if_pos ⟨h1, h3⟩, if_pos ⟨h1, h2⟩, ext_left t h1 h2]
theorem sep_right (s : ByteArray) {t : ByteArray} {x : Tok} (h1 : x.lo ≤ x.hi) (h2 : x.hi ≤ t.size) : isSep (joined s t) (shiftT (s.size + 4) x) = isSep t x := by
  unfold isSep tokIs wordOf shiftT
  dsimp only
  rw [if_pos ⟨by omega, by rw [joined_size]; omega⟩, if_pos ⟨h1, h2⟩, ext_right]
theorem sep_mid (s t : ByteArray) : isSep (joined s t) ⟨6, s.size + 1, s.size + 3⟩ = true := by
  unfold isSep tokIs wordOf
  rw [if_pos ⟨by simp, by rw [joined_size]; simp; omega⟩]
  dsimp only
  rw [ba_toList, ba_toList, ext_toList]
  unfold sfx
  have e : s.data.toList.length = s.size := by simp
  rw [joined_data, List.drop_append, List.drop_eq_nil_of_le (by omega), show s.size + 3 - (s.size + 1) = 2 by omega, show s.size + 1 - s.data.toList.length = 1 by omega]
  simp
def shiftS (d : Nat) (r : Nat × Nat) : Nat × Nat := (r.1 + d, r.2 + d)
theorem spansL_right (s : ByteArray) {t : ByteArray} : ∀ (ts : List Tok) (o : Option (Nat × Nat)), (∀ x ∈ ts, x.lo ≤ x.hi ∧ x.hi ≤ t.size) → spansL (joined s t) (o.map (shiftS (s.size + 4))) (ts.map (shiftT (s.size + 4))) = (spansL t o ts).map (shiftS (s.size + 4))
  | [], none, _ => rfl
  | [], some r, _ => rfl
  | x :: ts, o, h => by
    have hx := h x (by simp)
    have ht : ∀ y ∈ ts, y.lo ≤ y.hi ∧ y.hi ≤ t.size := fun y hy => h y (by simp [hy])
    have e1 := spansL_right s ts none ht
    rw [List.map_cons]
    cases o with
    | none =>
      have e2 := spansL_right s ts (some (x.lo, x.hi)) ht
      simp only [Option.map_none, Option.map_some] at e1 e2 ⊢
      rw [spansL, spansL, sep_right s hx.1 hx.2]
      split
      · simpa using e1
      · exact e2
    | some r =>
      have e2 := spansL_right s ts (some (r.1, x.hi)) ht
      simp only [Option.map_none, Option.map_some] at e1 e2 ⊢
      rw [spansL, spansL, sep_right s hx.1 hx.2]
      split
      · simpa using e1
      · exact e2
theorem spansL_left {s : ByteArray} (t : ByteArray) (rest : List Tok) : ∀ (ts : List Tok) (o : Option (Nat × Nat)), (∀ x ∈ ts, x.lo ≤ x.hi ∧ x.hi ≤ s.size) → spansL (joined s t) o (ts ++ ⟨6, s.size + 1, s.size + 3⟩ :: rest) = spansL s o ts ++ spansL (joined s t) none rest
  | [], none, _ => by simp only [List.nil_append, spansL, sep_mid s t, if_true, Option.toList]
  | [], some r, _ => by simp only [List.nil_append, spansL, sep_mid s t, if_true, Option.toList]
  | x :: ts, o, h => by
    have hx := h x (by simp)
    have ht : ∀ y ∈ ts, y.lo ≤ y.hi ∧ y.hi ≤ s.size := fun y hy => h y (by simp [hy])
    have e1 := spansL_left t rest ts none ht
    rw [List.cons_append]
    cases o with
    | none =>
      have e2 := spansL_left t rest ts (some (x.lo, x.hi)) ht
      rw [spansL, spansL, sep_left t hx.1 hx.2]
      split
      · simpa using e1
      · exact e2
    | some r =>
      have e2 := spansL_left t rest ts (some (r.1, x.hi)) ht
      rw [spansL, spansL, sep_left t hx.1 hx.2]
      split
      · rw [e1, List.append_assoc]
      · exact e2
theorem lex_in (s : ByteArray) : ∀ x ∈ lex s, x.lo ≤ x.hi ∧ x.hi ≤ s.size := fun x hx => by
  have := (lex_rises s).mem x hx
  exact ⟨by omega, this.2.2⟩
theorem spans_joined (s t : ByteArray) (h : ∀ x, (lex s).getLast? = some x → x.kind ≠ 7) : spans (joined s t) = spans s ++ (spans t).map (shiftS (s.size + 4)) := by
  unfold spans
  rw [lex_joined s t h, spansL_left t _ _ _ (lex_in s)]
  congr 1
  exact spansL_right s (lex t) none (lex_in t)
def shiftD (d : Nat) (x : Dc) : Dc := ⟨x.lo + d, x.hi + d, x.nodes, x.flt⟩
theorem declOf_eq (s : ByteArray) (r : Nat × Nat) : declOf s r = ⟨r.1, r.2, (one (subtext s r)).1, (one (subtext s r)).2⟩ := rfl
theorem declOf_left {s : ByteArray} (t : ByteArray) {r : Nat × Nat} (h1 : r.1 ≤ r.2) (h2 : r.2 ≤ s.size) : declOf (joined s t) r = declOf s r := by
  have e : subtext (joined s t) r = subtext s r := ext_left t h1 h2
  rw [declOf_eq, declOf_eq, e]
theorem declOf_right (s t : ByteArray) (r : Nat × Nat) : declOf (joined s t) (shiftS (s.size + 4) r) = shiftD (s.size + 4) (declOf t r) := by
  have e : subtext (joined s t) (shiftS (s.size + 4) r) = subtext t r := ext_right s t r.1 r.2
  rw [declOf_eq, declOf_eq, e]
  generalize one (subtext t r) = q
  unfold shiftS shiftD
  rw [Dc.mk.injEq]
  exact ⟨Int.natCast_add _ _, Int.natCast_add _ _, rfl, rfl⟩
theorem map_left {s : ByteArray} (t : ByteArray) : ∀ l : List (Nat × Nat), (∀ r ∈ l, r.1 ≤ r.2 ∧ r.2 ≤ s.size) → l.map (declOf (joined s t)) = l.map (declOf s)
  | [], _ => rfl
  | r :: l, h => by rw [List.map_cons, List.map_cons, declOf_left t (h r (by simp)).1 (h r (by simp)).2, map_left t l fun q hq => h q (by simp [hq])]
theorem map_right (s t : ByteArray) : ∀ l : List (Nat × Nat), (l.map (shiftS (s.size + 4))).map (declOf (joined s t)) = (l.map (declOf t)).map (shiftD (s.size + 4))
  | [] => rfl
  | r :: l => by rw [List.map_cons, List.map_cons, List.map_cons, List.map_cons, declOf_right, map_right s t l]
theorem parse_eq (s : ByteArray) : parse s = (spans s).map (declOf s) := rfl
theorem parse_joined (s t : ByteArray) (h : ∀ x, (lex s).getLast? = some x → x.kind ≠ 7) : parse (joined s t) = parse s ++ (parse t).map (shiftD (s.size + 4)) := by
  rw [parse_eq, parse_eq s, parse_eq t, spans_joined s t h, List.map_append, map_left t _ (spans_ok s), map_right]
end Go.Proofs.Ytkiijfgoaeiphaa

/- ParseApart: the walk. -/
set_option linter.unusedVariables false
set_option linter.unusedSimpArgs false
namespace Go.Proofs.Ytkiijfgoaeiphaa
open Go.RowKit
attribute [local go_sem ↓] Go.wp_at_zero Go.wp_at_succ

theorem own_decl {W : World} {base : Nat} {g cap : Nat} {l : List (Dc × Value)} (h : W.ownsRow base 37 6 (.slice (some ⟨g, 0, none⟩) l.length cap) l.length (l.flatMap declCells)) {j : Nat} {p : Dc × Value} (hj : l[j]? = some p) :
    W.cell? ⟨g, j * 6, none⟩ = some (.int .i64 p.1.lo) ∧ W.cell? ⟨g, j * 6 + 1, none⟩ = some (.int .i64 p.1.hi) ∧ W.cell? ⟨g, j * 6 + 2, none⟩ = some p.2 ∧ W.cell? ⟨g, j * 6 + 3, none⟩ = some (.int .i64 p.1.flt.code) ∧ W.cell? ⟨g, j * 6 + 4, none⟩ = some (.int .i64 p.1.flt.lo) ∧ W.cell? ⟨g, j * 6 + 5, none⟩ = some (.int .i64 p.1.flt.hi) := by
  have hn : 0 < l.length := by
    have := (List.getElem?_eq_some_iff.1 hj).1
    omega
  obtain ⟨g', cap', e, _, _, hc⟩ := own_at h hn
  injection e with e
  injection e with e
  injection e with e
  subst e
  have k := fun i u hu => hc (j * 6 + i) u (flat_get (enc := declCells) (n := 6) (fun _ => rfl) l j p hj i u hu)
  exact ⟨k 0 _ rfl, k 1 _ rfl, k 2 _ rfl, k 3 _ rfl, k 4 _ rfl, k 5 _ rfl⟩
/-- A part of a row of declarations. -/
theorem decls_part {w W : World} {base g cap : Nat} {l : List (Dc × Value)} (h : W.ownsRow base 37 6 (.slice (some ⟨g, 0, none⟩) l.length cap) l.length (l.flatMap declCells)) (hg : ∀ p ∈ l, Given w W p.2 p.1.nodes) (a n c : Nat) (hn : a + n ≤ l.length) :
    DeclsR W (.slice (some ⟨g, a * 6, none⟩) n c) (((l.map (·.1)).drop a).take n) := by
  have hlen : (((l.map (·.1)).drop a).take n).length = n := by simp; omega
  have hm := own_len h
  refine ⟨some ⟨g, a * 6, none⟩, c, by rw [hlen], by rw [hlen]; omega, fun _ => ⟨g, a * 6, rfl, fun j d hj => ?_⟩⟩
  have hjn : j < n := by
    have := (List.getElem?_eq_some_iff.1 hj).1
    omega
  rw [List.getElem?_take, if_pos hjn, List.getElem?_drop, List.getElem?_map] at hj
  cases hp : l[a + j]? with
  | none => rw [hp] at hj; cases hj
  | some p =>
    rw [hp] at hj
    injection hj with hj
    subst hj
    obtain ⟨a0, a1, a2, a3, a4, a5⟩ := own_decl h hp
    rw [show a * 6 + j * 6 = (a + j) * 6 by omega]
    exact ⟨a0, a1, ⟨_, a2, (hg p (List.mem_of_getElem? hp)).reads⟩, a3, a4, a5⟩
theorem parse_len2 (s : ByteArray) : (parse s).length = (spans s).length := by simp [parse]
theorem own_cap {W : World} {base : Nat} {e : TypeId} {size g n cap : Nat} {xs : List Value} (h : W.ownsRow base e size (.slice (some ⟨g, 0, none⟩) n cap) n xs) : n ≤ cap ∧ cap ≤ maxLen := by
  rcases h.2 with ⟨h0, _⟩ | ⟨g', cap', cur, hv, hb, hh, h1, h2, h3⟩
  · cases h0
  · injection hv with _ _ hc
    subst hc
    exact ⟨h1, h2⟩
theorem declsR_empty (W : World) (ad : Option Addr) (c : Nat) : DeclsR W (.slice ad 0 c) [] := ⟨ad, c, rfl, Nat.zero_le _, fun h => absurd rfl h⟩
theorem declsR_nil (W : World) : DeclsR W (.slice none 0 0) [] := ⟨none, 0, rfl, Nat.zero_le _, fun h => absurd rfl h⟩

/-- A row of declarations as its ends are being moved: the first k are. -/
structure Moved (W0 W : World) (g d k : Nat) (l : List (Dc × Value)) : Prop where
  far : ∀ i, i ≠ g → W.heap[i]? = W0.heap[i]?
  size : W.heap.size = W0.heap.size
  os : W.os = W0.os
  tape : W.tape = W0.tape
  output : W.output = W0.output
  lo : ∀ j p, l[j]? = some p → W.cell? ⟨g, j * 6, none⟩ = some (.int .i64 (if j < k then p.1.lo + d else p.1.lo))
  hi : ∀ j p, l[j]? = some p → W.cell? ⟨g, j * 6 + 1, none⟩ = some (.int .i64 (if j < k then p.1.hi + d else p.1.hi))
  rest : ∀ j p, l[j]? = some p → W.cell? ⟨g, j * 6 + 2, none⟩ = some p.2 ∧ W.cell? ⟨g, j * 6 + 3, none⟩ = some (.int .i64 p.1.flt.code) ∧ W.cell? ⟨g, j * 6 + 4, none⟩ = some (.int .i64 p.1.flt.lo) ∧ W.cell? ⟨g, j * 6 + 5, none⟩ = some (.int .i64 p.1.flt.hi)
  fz : ∀ o, W.frozen? ⟨g, o, none⟩ = false
theorem Moved.step {W0 W : World} {g d k : Nat} {l : List (Dc × Value)} {p : Dc × Value} (h : Moved W0 W g d k l) (hp : l[k]? = some p) :
    Moved W0 ((W.setCell ⟨g, k * 6, none⟩ (.int .i64 (p.1.lo + d))).setCell ⟨g, k * 6 + 1, none⟩ (.int .i64 (p.1.hi + d))) g d (k + 1) l := by
  refine ⟨fun i hi => ?_, by simpa using h.size, h.os, h.tape, h.output, fun j q hq => ?_, fun j q hq => ?_, fun j q hq => ?_, fun o => by simp [h.fz]⟩
  · exact (Below.heap_setCell _ _ _ _ hi).trans ((Below.heap_setCell _ _ _ _ hi).trans (h.far i hi))
  · by_cases hj : j = k
    · subst hj
      rw [hp] at hq; injection hq with hq; subst hq
      rw [if_pos (by omega)]
      exact cell_off (cell_on (h.lo j p hp)) (by omega)
    · have := h.lo j q hq
      rw [show (if j < k + 1 then q.1.lo + (d : Int) else q.1.lo) = if j < k then q.1.lo + (d : Int) else q.1.lo by
        by_cases h1 : j < k
        · rw [if_pos h1, if_pos (by omega)]
        · rw [if_neg h1, if_neg (by omega)]]
      exact cell_off (cell_off this (by omega)) (by omega)
  · by_cases hj : j = k
    · subst hj
      rw [hp] at hq; injection hq with hq; subst hq
      rw [if_pos (by omega)]
      exact cell_on (cell_off (h.hi j p hp) (by omega))
    · have := h.hi j q hq
      rw [show (if j < k + 1 then q.1.hi + (d : Int) else q.1.hi) = if j < k then q.1.hi + (d : Int) else q.1.hi by
        by_cases h1 : j < k
        · rw [if_pos h1, if_pos (by omega)]
        · rw [if_neg h1, if_neg (by omega)]]
      exact cell_off (cell_off this (by omega)) (by omega)
  · obtain ⟨a, b, c, e⟩ := h.rest j q hq
    exact ⟨cell_off (cell_off a (by omega)) (by omega), cell_off (cell_off b (by omega)) (by omega), cell_off (cell_off c (by omega)) (by omega), cell_off (cell_off e (by omega)) (by omega)⟩
theorem Moved.reads {W0 W : World} {w : World} {g d cap : Nat} {l : List (Dc × Value)} (h : Moved W0 W g d l.length l) (hm : l.length ≤ maxLen) (hg : ∀ p ∈ l, Given w W p.2 p.1.nodes) : DeclsR W (.slice (some ⟨g, 0, none⟩) l.length cap) ((l.map (·.1)).map (shiftD d)) := by
  refine ⟨some ⟨g, 0, none⟩, cap, by simp, by simpa using hm, fun _ => ⟨g, 0, rfl, fun j x hj => ?_⟩⟩
  rw [List.getElem?_map, List.getElem?_map] at hj
  cases hp : l[j]? with
  | none => rw [hp] at hj; cases hj
  | some p =>
    rw [hp] at hj
    injection hj with hj
    subst hj
    have hjl := (List.getElem?_eq_some_iff.1 hp).1
    have h0 := h.lo j p hp
    have h1 := h.hi j p hp
    rw [if_pos hjl] at h0 h1
    obtain ⟨a, b, c, e⟩ := h.rest j p hp
    simp only [Nat.zero_add]
    exact ⟨h0, h1, ⟨_, a, (hg p (List.mem_of_getElem? hp)).reads⟩, b, c, e⟩

set_option maxRecDepth 100000 in
set_option maxHeartbeats 4000000 in
theorem apart_walk (s t : ByteArray) (hs : s.size ≤ 140737488351232) (ht : t.size ≤ 140737488351232) (w : World) : Calls Try.prog 4 #[.string s, .string t] w (PostYes w) := by
  generalize hPost : PostYes w = Post
  have e0 := Sec.mk hPost
  clear hPost
  have hs' : (s.size : Int) ≤ 140737488351232 := by omega
  have ht' : (t.size : Int) ≤ 140737488351232 := by omega
  have hw0 : IntKind.i64.wrap ((s.size : Int) + (t.size : Int)) = (s.size : Int) + (t.size : Int) := IntWalk.i64_in _ (by omega)
  have hls := spans_len s
  have hlt := spans_len t
  go_enter Try.func4, Try.ntmps4
  go_wp2_with fail
  refine (alive10_any _).mono ?_
  rintro e W0 ⟨rfl, hB0⟩
  by_cases hbig : 5000 < (s.size : Int) + (t.size : Int)
  · go_wp2_with fail
    rw [← e0.out]; exact ⟨rfl, hB0⟩
  have hs5 : s.size ≤ 5000 := by omega
  have ht5 : t.size ≤ 5000 := by omega
  go_wp2_with fail
  refine (Parse_all s (by omega) _).mono ?_
  rintro e W1 ⟨v1, l1, rfl, hl1, hD1⟩
  obtain ⟨a1, c1, hv⟩ := own_shape hD1.own
  subst hv
  have hB1 := hB0.trans (hD1.below.mono hB0.size)
  go_wp2_with fail
  refine (Parse_all t (by omega) _).mono ?_
  rintro e W2 ⟨v2, l2, rfl, hl2, hD2⟩
  obtain ⟨a2, c2, hv⟩ := own_shape hD2.own
  subst hv
  have hB2 := hB1.trans (hD2.below.mono hB1.size)
  have hD1a := hD1.later hD2.below
  have hg2 : ∀ q, (Value.slice a2 l2.length c2).ownBlock = some q → w.heap.size ≤ q ∧ q < W2.heap.size := fun q hq => by
    have := hD2.own.lt q hq
    have := hB1.size
    omega
  have hg2' := Sec.mk hg2
  clear hg2
  have hs23 : ∀ W, Below W2.heap.size W2 W → W2.heap.size ≤ W.heap.size := fun W h => h.size
  go_wp2_with fail
  refine (lex_any s (by unfold most; omega) _).mono ?_
  rintro e W3 ⟨v3, rfl, hT⟩
  obtain ⟨a3, c3, hv⟩ := hT.shape
  subst hv
  have hB3 := hB2.trans (hT.below.mono hB2.size)
  have hs3 := hT.below.size
  clear hs23
  have hD1b := hD1a.later hT.below
  have hD2b := hD2.later hT.below
  have hll := lex_len s
  have hT3 := hT.reads (by unfold maxLen; omega)
  have n1 : l1.length = (spans s).length := by rw [← parse_len2, ← hl1, List.length_map]
  have n2 : l2.length = (spans t).length := by rw [← parse_len2, ← hl2, List.length_map]
  have n1' := Sec.mk n1
  have n2' := Sec.mk n2
  clear n1 n2 hD1 hD1a hD2 hT
  have hT4 := Sec.mk hT3
  obtain ⟨_, _, hq, hq2, hT5⟩ := hT3
  injection hq with hq hq' hq''
  subst hq hq''
  have hT6 := Sec.mk hT5
  clear hT5 hq2
  go_upto_region 8 with fail
  go_cut [36] from 24 to 36 (fun bv wx => ∃ b : Bool, bv = .bool b ∧ Sec (b = true ∨ ∀ x, (lex s).getLast? = some x → x.kind ≠ 7) ∧ wx = W3)
  case first =>
    by_cases hne : lex s = []
    · have hl0 : (lex s).length = 0 := by rw [hne]; rfl
      have hno : ∀ x, (lex s).getLast? = some x → x.kind ≠ 7 := fun x hx => by rw [hne] at hx; cases hx
      have hno' := Sec.mk hno
      clear hno hne
      go_wp2_with fail
      go_meet
      case rel => exact ⟨false, rfl, ⟨.inr hno'.out⟩, rfl⟩
    · have hlp := List.length_pos_iff.2 hne
      obtain ⟨tb, to_, rfl, _, htc⟩ := hT6.out hne
      have hg := List.getElem?_eq_getElem (l := lex s) (i := (lex s).length - 1) (by omega)
      have t0 := htc _ _ hg 0 _ rfl
      have hla : (lex s).getLast? = some (lex s)[(lex s).length - 1] := by rw [List.getLast?_eq_getElem?]; exact hg
      obtain ⟨j, hj⟩ : ∃ j, (lex s).length - 1 = j := ⟨_, rfl⟩
      have hpi : (0 : Int) < ((lex s).length : Int) := by omega
      have hj0 : (0 : Int) ≤ (j : Int) := by omega
      have hj1 : (j : Int) < ((lex s).length : Int) := by omega
      have hw1 : IntKind.i64.wrap (((lex s).length : Int) - 1) = (j : Int) := (IntWalk.i64_in _ (by omega)).trans (by omega)
      have hw2 : IntKind.i64.wrap (j : Int) = (j : Int) := IntWalk.i64_in _ (by omega)
      generalize (lex s)[(lex s).length - 1] = x at *
      rw [hj] at t0
      simp only [Nat.add_zero] at t0
      have hla' := Sec.mk hla
      clear hla hg htc hj hne
      by_cases hk : x.kind = 7
      · rw [hk] at t0
        go_wp2_with fail
        go_meet
        case rel => exact ⟨true, rfl, ⟨.inl rfl⟩, rfl⟩
      · have hk' : ((x.kind : Int) == 7) = false := by simp; omega
        have hk2 : ¬ (x.kind : Int) = 7 := by omega
        go_wp2_with fail
        go_meet
        case rel => exact ⟨false, rfl, ⟨.inr fun y hy => by rw [hla'.out] at hy; injection hy with hy; subst hy; exact hk⟩, rfl⟩
  case rest =>
  obtain ⟨b, rfl, hb, hwc⟩ := hcut
  obtain rfl := hwc.symm
  cases b with
  | true =>
    go_wp2_with fail
    rw [← e0.out]; exact ⟨rfl, hB3⟩
  | false =>
    have hno : ∀ x, (lex s).getLast? = some x → x.kind ≠ 7 := hb.out.resolve_left (by decide)
    have hno' := Sec.mk hno
    clear hno hb
    go_wp2_with fail
    have hjp := parse_joined s t hno'.out
    have hjs := joined_size s t
    have key : ∀ u : ByteArray, u = joined s t → Calls Try.prog 12 #[.string u] W3 (PostDecls W3 (parse (joined s t))) := by
      intro u hu
      subst hu
      exact Parse_all _ (by rw [hjs]; omega) _
    refine (key _ (by unfold joined; rfl)).mono ?_
    rintro e W4 ⟨v4, l4, rfl, hl4, hD4⟩
    rw [hjp, ← hl1, ← hl2] at hl4
    have n4 : l4.length = l1.length + l2.length := by
      have := congrArg List.length hl4
      simpa using this
    have hB4 := hB3.trans (hD4.below.mono hB3.size)
    have hD1 := hD1b.later hD4.below
    have hD2 := hD2b.later hD4.below
    have hT := hT4.out.keep (w' := W4) (fun a ha => World.cell?_of_block (hD4.below.block _ ha.2))
    have hl4' := Sec.mk hl4
    have q1 : l1.length ≤ 5000 := by have := n1'.out; omega
    have q2 : l2.length ≤ 5000 := by have := n2'.out; omega
    have hwl : IntKind.i64.wrap ((l1.length : Int) + (l2.length : Int)) = (l1.length : Int) + (l2.length : Int) := IntWalk.i64_in _ (by omega)
    clear hl4 hjp hjs hD1b hD2b
    have hD4o := hD4.own
    have hsh : (∃ g4 cap4, v4 = .slice (some ⟨g4, 0, none⟩) l4.length cap4) ∨ (v4 = .slice none 0 0 ∧ l4.length = 0) := by
      rcases hD4.own.2 with ⟨h1, h2⟩ | ⟨g4, cap4, _, h1, _⟩
      · exact .inr ⟨h1, h2⟩
      · exact .inl ⟨g4, cap4, h1⟩
    clear hD4o
    rcases hsh with ⟨g4, cap4, hv4⟩ | ⟨hv4, hz⟩
    · subst hv4
      have hcap := own_cap hD4.own
      have hg4 := hD4.own.lt g4 rfl
      have hc1 : (l1.length : Int) ≤ (cap4 : Int) := by omega
      have hc2 : (l4.length : Int) ≤ (cap4 : Int) := by omega
      have hc3 : (cap4 : Int) ≤ 9223372036854775807 := by have := hcap.2; unfold maxLen at this; omega
      have hc4 : (l1.length : Int) ≤ (l4.length : Int) := by omega
      have n4i : (l4.length : Int) = (l1.length : Int) + (l2.length : Int) := by omega
      have hp1 := decls_part hD4.own hD4.given 0 l1.length cap4 (by omega)
      rw [hl4'.out, List.drop_zero, List.take_append_of_le_length (by simp), List.take_of_length_le (by simp), Nat.zero_mul] at hp1
      have n4' := Sec.mk n4
      clear n4
      go_wp2_with fail
      refine (sameDecls_any (l1.map (·.1)) _ _ _ hp1 hD1.reads).mono ?_
      rintro e W5 ⟨rfl, hB5⟩
      have hD4b := hD4.later hB5
      have hD2b := hD2.later hB5
      have hB6 := hB4.trans (hB5.mono hB4.size)
      have hTb := hT.keep (w' := W5) (fun a ha => World.cell?_of_block (hB5.block _ (by have := ha.2; have := hD4.below.size; omega)))
      have hin : ∀ p ∈ l2, 0 ≤ p.1.lo ∧ p.1.lo ≤ 5000 ∧ 0 ≤ p.1.hi ∧ p.1.hi ≤ 5000 := by
        intro p hp
        have hm : p.1 ∈ parse t := by rw [← hl2]; exact List.mem_map_of_mem hp
        obtain ⟨r, hr, he⟩ := List.mem_map.1 hm
        have := spans_ok t r hr
        rw [← he, declOf_eq]
        dsimp only
        omega
      have hin' := Sec.mk hin
      have hs45 := hB5.size
      clear hin hD1 hp1 hD4 hD2 hT hB5
      have hsp : IntKind.i64.wrap ((s.size : Int) + 4) = (s.size : Int) + 4 := IntWalk.i64_in _ (by omega)
      go_wp2_with fail
      go_loopg [9] l2.length (fun n iv wr => ∃ k : Nat, iv = .int .i64 k ∧ Sec (k + n = l2.length) ∧ (l2 ≠ [] → ∃ g2, a2 = some ⟨g2, 0, none⟩ ∧ w.heap.size ≤ g2 ∧ g2 < W2.heap.size ∧ Moved W5 wr g2 (s.size + 4) k l2) ∧ (l2 = [] → wr = W5))
      case atStart =>
        refine ⟨0, rfl, ⟨by omega⟩, fun hne => ?_, fun _ => rfl⟩
        obtain ⟨g2, cap2, e2, _, _, _⟩ := own_at hD2b.own (List.length_pos_iff.2 hne)
        injection e2 with e2 _ e3
        subst e2 e3
        have hq := hg2'.out g2 rfl
        have hdc := fun (j : Nat) (p : Dc × Value) (hj : l2[j]? = some p) => own_decl hD2b.own hj
        exact ⟨g2, rfl, hq.1, hq.2, fun _ _ => rfl, rfl, rfl, rfl, rfl, fun j p hj => by rw [if_neg (Nat.not_lt_zero _)]; exact (hdc j p hj).1, fun j p hj => by rw [if_neg (Nat.not_lt_zero _)]; exact (hdc j p hj).2.1, fun j p hj => (hdc j p hj).2.2, fun o => hD2b.own.frozenAt o⟩
      case round =>
        obtain ⟨k, rfl, hk, hM, hM0⟩ := hrel
        have hM' := Sec.mk hM
        have hM0' := Sec.mk hM0
        clear hM hM0
        by_cases hlt : k < l2.length
        · have hki : (k : Int) < (l2.length : Int) := by omega
          have hk0 : (0 : Int) ≤ (k : Int) := by omega
          have hw1 : IntKind.i64.wrap ((k : Int) + 1) = (k : Int) + 1 := IntWalk.i64_in _ (by omega)
          cases gk with
          | zero => have := hk.out; omega
          | succ n =>
            have hne : l2 ≠ [] := by intro e; rw [e] at hlt; simp at hlt
            obtain ⟨g2, rfl, hg2, hg2', hM⟩ := hM'.out hne
            have hg := List.getElem?_eq_getElem hlt
            have hst := hM.step hg
            have t0 := hM.lo k _ hg
            have t1 := hM.hi k _ hg
            rw [if_neg (Nat.lt_irrefl _)] at t0 t1
            have hq := hin'.out _ (List.getElem_mem hlt)
            generalize l2[k] = p at *
            obtain ⟨⟨plo, phi, pns, pfl⟩, pv⟩ := p
            dsimp only at hst t0 t1 hq
            rw [show ((s.size + 4 : Nat) : Int) = (s.size : Int) + 4 from by omega] at hst
            have hw2 : IntKind.i64.wrap (plo + ((s.size : Int) + 4)) = plo + ((s.size : Int) + 4) := IntWalk.i64_in _ (by omega)
            have hw3 : IntKind.i64.wrap (phi + ((s.size : Int) + 4)) = phi + ((s.size : Int) + 4) := IntWalk.i64_in _ (by omega)
            have t2 : (wr.setCell ⟨g2, k * 6, none⟩ (.int .i64 (plo + ((s.size : Int) + 4)))).cell? ⟨g2, k * 6 + 1, none⟩ = some (.int .i64 phi) := cell_off t1 (by omega)
            have fz := hM.fz
            have hst' := Sec.mk hst
            have hne' := Sec.mk hne
            clear hst hg hM hne hq t1
            go_wp2_with fail
            go_roundg n
            case measure => omega
            case rel => exact ⟨k + 1, by rw [show ((k + 1 : Nat) : Int) = (k : Int) + 1 from by omega], ⟨by have := hk.out; omega⟩, fun _ => ⟨g2, rfl, hg2, hg2', hst'.out⟩, fun e => absurd e hne'.out⟩
        · have hki : ¬ (k : Int) < (l2.length : Int) := by omega
          obtain rfl : k = l2.length := by have := hk.out; omega
          have hall : (∀ i, (W2.heap.size ≤ i ∨ ∃ cur e fr, W5.heap[i]? = some (.cells cur e fr) ∧ (e = 53 ∨ e = 3)) → wr.heap[i]? = W5.heap[i]?) ∧ wr.heap.size = W5.heap.size ∧ Below w.heap.size w wr ∧ DeclsR wr (.slice a2 l2.length c2) ((l2.map (·.1)).map (shiftD (s.size + 4))) := by
            by_cases hne : l2 = []
            · have := hM0'.out hne
              subst this
              refine ⟨fun _ _ => rfl, rfl, hB6, ?_⟩
              subst hne
              exact hD2b.reads
            · obtain ⟨g2, rfl, hq1, hq2, hM⟩ := hM'.out hne
              have hne2 : ∀ i, (W2.heap.size ≤ i ∨ ∃ cur e fr, W5.heap[i]? = some (.cells cur e fr) ∧ (e = 53 ∨ e = 3)) → i ≠ g2 := by
                rintro i (hi | ⟨cur, e, fr, hh, he⟩) e'
                · omega
                · subst e'
                  obtain ⟨cur', hh'⟩ := own_elem hD2b.own (k := i) rfl
                  rw [hh] at hh'
                  injection hh' with hh'
                  injection hh' with _ hh'
                  subst hh'
                  rcases he with he | he <;> exact absurd he (by decide)
              refine ⟨fun i hi => hM.far i (hne2 i hi), hM.size, ⟨hM.os.trans hB6.os, hM.tape.trans hB6.tape, hM.output.trans hB6.output, by rw [hM.size]; exact hB6.size, fun i hi => (hM.far i (by omega)).trans (hB6.block i hi)⟩, ?_⟩
              refine hM.reads (w := W1) (own_len hD2b.own) fun p hp => (hD2b.given p hp).apart fun i cur e fr hh he => hM.far i (hne2 i (.inr ⟨cur, e, fr, hh, he⟩))
          obtain ⟨hfar, hsz, hBw, hR2⟩ := hall
          have hDo := ownsRow_of_heap (w' := wr) hD4b.own fun q hq => hfar q (.inl (by
            have h1 : g4 = q := by simpa [Value.ownBlock] using hq
            have := hg4.1
            omega))
          have hDg : ∀ p ∈ l4, Given W3 wr p.2 p.1.nodes := fun p hp => (hD4b.given p hp).apart fun i cur e fr hh he => hfar i (.inr ⟨cur, e, fr, hh, he⟩)
          have hTw := hTb.keep (w' := wr) (fun a ha => World.cell?_of_block (hfar _ (.inl ha.1)))
          have hp2 := fun c => decls_part hDo hDg l1.length l2.length c (by have := n4'.out; omega)
          have hdl : ((l4.map (·.1)).drop l1.length).take l2.length = (l2.map (·.1)).map (shiftD (s.size + 4)) := by
            rw [hl4'.out, List.drop_append_of_le_length (by simp), List.drop_eq_nil_of_le (by simp), List.nil_append, List.take_of_length_le (by simp)]
          rw [hdl] at hp2
          have hwsub : IntKind.i64.wrap ((l4.length : Int) - (l1.length : Int)) = (l2.length : Int) := (IntWalk.i64_in _ (by omega)).trans (by omega)
          have hnat : l4.length - l1.length = l2.length := by have := n4'.out; omega
          have hfar' := Sec.mk hfar
          clear hfar hM' hM0' hD4b hD2b hTb hDo hDg
          have fin : ∀ W6, Below wr.heap.size wr W6 → Calls Try.prog 14 #[.string s, .slice a3 (lex s).length c3] W6 (PostSpans W6 (spansL s none (lex s))) := fun W6 h6 => spans_any s (by unfold maxLen; omega) (lex s) _ W6 ((hTw.keep (w' := W6) (fun a ha => World.cell?_of_block (h6.block _ (by have := ha.2; have := hg4.1; have := h6.size; have := hg4.2; omega)))).keepBl fun b hb => by have := hb.2; have := hg4.1; have := h6.size; have := hg4.2; omega) (by omega)
          have fin' := Sec.mk fin
          clear fin
          have hn1 : (spansL s none (lex s)).length = l1.length := n1'.out.symm
          have hn1' := Sec.mk hn1
          clear hn1
          by_cases hcl : cap4 = l1.length
          · have hz2 : l2.length = 0 := by have := n4'.out; omega
            obtain rfl : l2 = [] := List.eq_nil_of_length_eq_zero hz2
            subst hcl
            have hz4 : l4.length - l1.length = 0 := by omega
            clear hnat hz2
            simp only [List.length_nil] at *
            go_wp2_with fail
            refine (sameDecls_any [] _ _ _ (declsR_empty _ _ _) (declsR_empty _ _ _)).mono ?_
            rintro e W6 ⟨rfl, hB7⟩
            go_wp2_with fail
            refine (fin'.out W6 hB7).mono ?_
            rintro e W8 ⟨v8, rfl, hS8, hB8⟩
            obtain ⟨a8, c8, hv⟩ := own_shape hS8
            subst hv
            rw [hn1'.out]
            have hB9 := (hBw.trans (hB7.mono hBw.size)).trans (hB8.mono (by have := hBw.size; have := hB7.size; omega))
            clear hS8 hB7 hB8
            go_wp2_with fail
            rw [← e0.out]
            exact ⟨rfl, hB9⟩
          · have hcl2 : (cap4 : Int) - (l1.length : Int) ≠ 0 := by omega
            have hcl3 : cap4 - l1.length ≠ 0 := by omega
            have hcl4 : ¬ cap4 = l1.length := hcl
            go_wp2_with fail
            refine (sameDecls_any ((l2.map (·.1)).map (shiftD (s.size + 4))) _ _ _ (hp2 _) hR2).mono ?_
            rintro e W6 ⟨rfl, hB7⟩
            go_wp2_with fail
            refine (fin'.out W6 hB7).mono ?_
            rintro e W8 ⟨v8, rfl, hS8, hB8⟩
            obtain ⟨a8, c8, hv⟩ := own_shape hS8
            subst hv
            rw [hn1'.out]
            have hB9 := (hBw.trans (hB7.mono hBw.size)).trans (hB8.mono (by have := hBw.size; have := hB7.size; omega))
            clear hS8 hB7 hB8
            go_wp2_with fail
            rw [← e0.out]
            exact ⟨rfl, hB9⟩
    · obtain rfl : l1 = [] := List.eq_nil_of_length_eq_zero (by omega)
      obtain rfl : l2 = [] := List.eq_nil_of_length_eq_zero (by rw [n4] at hz; simpa using hz)
      subst hv4
      clear hl4' hwl n4 q1 q2
      have hn1 : (spansL s none (lex s)).length = 0 := n1'.out.symm
      have hn1' := Sec.mk hn1
      have hz' := Sec.mk hz
      clear hn1 hz
      have fin : ∀ W6, Below W4.heap.size W4 W6 → Calls Try.prog 14 #[.string s, .slice a3 (lex s).length c3] W6 (PostSpans W6 (spansL s none (lex s))) := fun W6 h6 => spans_any s (by unfold maxLen; omega) (lex s) _ W6 ((hT.keep (w' := W6) (fun a ha => World.cell?_of_block (h6.block _ (by have := ha.2; have := hD4.below.size; omega)))).keepBl fun b hb => by have := hb.2; have := hD4.below.size; have := h6.size; omega) (by omega)
      have fin' := Sec.mk fin
      clear fin hD4 hD1 hD2 hT
      simp only [List.length_nil] at *
      go_wp2_with fail
      refine (sameDecls_any [] _ _ _ (declsR_empty _ _ _) (declsR_empty _ _ _)).mono ?_
      rintro e W5 ⟨rfl, hB5⟩
      go_wp2_with fail
      go_loopg [9] 0 (fun n iv wr => iv = .int .i64 0 ∧ Below W4.heap.size W4 wr)
      case atStart => exact ⟨rfl, hB5⟩
      case round =>
        obtain ⟨rfl, hBw⟩ := hrel
        go_wp2_with fail
        refine (sameDecls_any [] _ _ _ (declsR_empty _ _ _) (declsR_empty _ _ _)).mono ?_
        rintro e W6 ⟨rfl, hB7⟩
        have hB8 := hBw.trans (hB7.mono hBw.size)
        go_wp2_with fail
        refine (fin'.out W6 hB8).mono ?_
        rintro e W8 ⟨v8, rfl, hS8, hB9⟩
        obtain ⟨a8, c8, hv⟩ := own_shape hS8
        subst hv
        rw [hn1'.out]
        have hB10 := hB4.trans ((hB8.trans (hB9.mono hB8.size)).mono hB4.size)
        clear hS8 hB7 hB8 hB9
        go_wp2_with fail
        rw [← e0.out]
        exact ⟨rfl, hB10⟩
end Go.Proofs.Ytkiijfgoaeiphaa

/- Proved: parlancelaw10.ParseApart answers true for every two strings, and they read as before. Conditions: none. -/
set_option linter.unusedVariables false
namespace Go.Proofs.Ytkiijfgoaeiphaa.ParseApartProof
open Go.ChangeShapes Go.WideShapes Go.ChangeAt Go.RowKit Go.ChangeMaps
theorem own : ownKnob Try.prog.godebug = none := by kernel_rfl

set_option maxRecDepth 100000 in
theorem lifted (os : Os) (started : os.Started) (H : Type) (enc : TypeId × Value → H) :
    ReturnsInHanded {} Try.checked os 4 .any (Rows.parseApartSpec.pre6 enc Try.prog Try.f4 Rows.parseApartRow.domain false) (Rows.parseApartSpec.post enc Try.prog Try.f4 false true false false) := by
  refine returnsInHanded_of_change_sized (C := Try.checked) own started (by kernel_rfl) Try.func4
    (ChangeSpec.witness6 (enc := enc) (C := Try.checked) false ⟨#[], #[.string ⟨#[]⟩, .string ⟨#[]⟩], []⟩ 8 (by kernel_rfl) (by kernel_rfl) (by kernel_rfl) (by kernel_rfl)) ?_
  intro W base args ds gs before hval0 hW hcnd hsz _
  have hval : ∀ (j : Nat) t v, Try.f4.params[j]? = some t → args[j]? = some v → Value.okWide Try.prog W .any base t v := hval0
  have hW' := hW
  obtain ⟨p, q, hA0, hV, rfl, hfz, hnd⟩ := hW
  have hA : DataW.TrodAll enc Try.prog W 0 (fun _ => true) true Try.f4.params.toList args.toList ds p := hA0
  rw [Try.params4] at hA hval
  obtain ⟨v0, vs0, d0, ds0, p0, q0, hargs, rfl, rfl, h0, r0⟩ := trodAll_cons hA
  obtain ⟨v1, vs1, d1, ds1, p1, q1, rfl, rfl, rfl, h1, r1⟩ := trodAll_cons r0
  obtain ⟨rfl, rfl, rfl⟩ := trodAll_nil r1
  obtain rfl : args = #[v0, v1] := by cases args; simp_all
  obtain ⟨rfl, rfl⟩ := trodVars_none hV
  obtain ⟨a, rfl, rfl, rfl, z0⟩ := open_string Try.underlying9 (hval 0 9 v0 rfl rfl) h0
  obtain ⟨b, rfl, rfl, rfl, z1⟩ := open_string Try.underlying9 (hval 1 9 v1 rfl rfl) h1
  have k0 : a.data.toList.length ≤ reachBytes := sized_string hsz (j := 0) (t := 9) rfl rfl
  have k1 : b.data.toList.length ≤ reachBytes := sized_string hsz (j := 1) (t := 9) rfl rfl
  have kr : reachBytes = 140737488351232 := by decide
  rw [kr] at k0 k1
  clear hA0 hval0
  simp only [List.append_nil] at hW'
  refine (apart_walk a b (by simpa using k0) (by simpa using k1) W).mono fun e W' ⟨he, hg⟩ => ?_
  subst he
  refine ⟨_, rfl, post_below (pa := []) (pv := []) hW' (fun _ _ _ => (trodAll_cons_mk (shut_bool Try.underlying4 _) trodAll_mk0)) (fun sp _ => (trodAll_cons_mk (shut_string Try.underlying9 z0) (trodAll_cons_mk (shut_string Try.underlying9 z1) trodAll_mk0))) (fun _ _ => rfl) rfl hg (ok_one (by kernel_rfl) rfl (okWide_bool_mk Try.underlying4 _))⟩

theorem over : Rows.parseApartRow.holds Try.pinned (OpenSpec.ofChange Rows.parseApartSpec) :=
  OpenClaim.holds_of_wide 4 Try.f4 rfl rfl rfl rfl rfl rfl rfl ⟨rfl, rfl, rfl, rfl, rfl⟩ rfl rfl rfl rfl rfl (by kernel_rfl) Try.func4 (by kernel_rfl)
    (of_decide_eq_true (by kernel_rfl)) (by unfold Func.isWrapper; first | (rw [if_pos (by decide +kernel)]; kernel_rfl) | (rw [if_neg (by decide +kernel)]; exact ⟨rfl, rfl⟩))
    (fun os started H enc _ => lifted os started H enc)

theorem proved : Rows.ParseApartSaid := over
#print axioms proved
end Go.Proofs.Ytkiijfgoaeiphaa.ParseApartProof
