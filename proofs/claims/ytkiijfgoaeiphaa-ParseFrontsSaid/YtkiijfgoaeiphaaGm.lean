/- Plain: the tokens, the spans, the declarations of two texts with ";;" between. -/
import Derived.Test.YtkiijfgoaeiphaaGf
import Derived.Test.YtkiijfgoaeiphaaGa
import Derived.Test.YtkiijfgoaeiphaaRows
import Derived.SizedLaws
import Derived.ChangeMaps5
set_option linter.unusedVariables false
set_option linter.unusedSimpArgs false
namespace Go.Proofs.Ytkiijfgoaeiphaa

theorem lexF_fuel : ∀ (n k : Nat) (l : Bs), l.length ≤ n → lexF n k l = lexF l.length k l := by
  intro n
  induction n using Nat.strongRecOn with
  | _ n ih =>
    intro k l h
    cases l with
    | nil => cases n <;> rfl
    | cons c r =>
      cases n with
      | zero => simp at h
      | succ n =>
        simp only [List.length_cons] at h ⊢
        have key : ∀ (j : Nat) (q : Bs), q.length ≤ r.length → lexF n j q = lexF r.length j q := fun j q hq => by
          rw [ih n (Nat.lt_succ_self _) j q (by omega)]
          by_cases hn : r.length < n + 1
          · rw [ih r.length hn j q hq]
          · omega
        have hd : ∀ m, 1 ≤ m → ((c :: r).drop m).length ≤ r.length := fun m hm => by simp; omega
        rw [lexF, lexF]
        split
        · exact key _ _ (Nat.le_refl _)
        · split
          · rename_i h2
            split
            · exact key _ _ (hd _ (Nat.le_trans (by decide) (remark_two h2)))
            · rfl
          · split
            · rw [key _ _ (hd _ (by omega))]
            · rw [key _ _ (hd _ (by omega))]
def shiftT (d : Nat) (t : Tok) : Tok := ⟨t.kind, t.lo + d, t.hi + d⟩
theorem lexF_shift (d : Nat) : ∀ (n k : Nat) (l : Bs), lexF n (k + d) l = (lexF n k l).map (shiftT d)
  | 0, _, _ => by simp [lexF]
  | _ + 1, _, [] => by simp [lexF]
  | n + 1, k, c :: r => by
    rw [lexF, lexF]
    split
    · rw [show k + d + 1 = k + 1 + d by omega]; exact lexF_shift d n _ _
    · split
      · split
        · rw [show k + d + (remark 0 (c :: r)).1 = k + (remark 0 (c :: r)).1 + d by omega]; exact lexF_shift d n _ _
        · simp [shiftT]; omega
      · split
        · rw [show k + d + (nothing r + 1) = k + (nothing r + 1) + d by omega, lexF_shift d n]; simp [shiftT]
        · rw [show k + d + (token (c :: r)).2 = k + (token (c :: r)).2 + d by omega, lexF_shift d n]; simp [shiftT]

section
variable (x : Bs)
theorem opens_app (c : UInt8) (r : Bs) : opens (c :: r ++ 10 :: x) = opens (c :: r) := by
  cases r with
  | nil => simp [opens]
  | cons d r => rfl
theorem closes_app (c : UInt8) (r : Bs) : closes (c :: r ++ 10 :: x) = closes (c :: r) := by
  cases r with
  | nil => simp [closes]
  | cons d r => rfl
theorem remark_app (y : Bs) : ∀ (n : Int) (l : Bs), (remark n l).2 = true → remark n (l ++ y) = remark n l
  | _, [], h => by simp [remark] at h
  | _, [_], h => by simp [remark] at h
  | n, a :: b :: r, h => by
    rw [remark] at h
    show remark n (a :: b :: (r ++ y)) = _
    rw [remark, remark]
    have ho : opens (a :: b :: (r ++ y)) = opens (a :: b :: r) := rfl
    have hc : closes (a :: b :: (r ++ y)) = closes (a :: b :: r) := rfl
    rw [ho, hc]
    split at h
    · rename_i h1
      rw [if_pos h1, if_pos h1, remark_app y (n + 1) r h]
    · rename_i h1
      rw [if_neg h1, if_neg h1]
      split at h
      · rename_i h2
        rw [if_pos h2, if_pos h2]
        split at h
        · rename_i h3; rw [if_pos h3, if_pos h3]
        · rename_i h3; rw [if_neg h3, if_neg h3, remark_app y (n - 1) r h]
      · rename_i h2
        have := remark_app y n (b :: r) h
        rw [if_neg h2, if_neg h2]
        rw [List.cons_append] at this
        rw [this]
termination_by _ l => l.length
theorem count_app (p : Nat → Bool) (hp : p 10 = false) : ∀ l : Bs, count p (l ++ 10 :: x) = count p l
  | [] => by simp [count, hp]
  | c :: r => by rw [List.cons_append, count, count, count_app p hp r]
theorem count_lt (p : Nat → Bool) : ∀ l : Bs, count p l ≤ l.length
  | [] => by simp [count]
  | c :: r => by have := count_lt p r; rw [count]; split <;> simp <;> omega
theorem name10 (b : Bool) : nameByte b 10 = false := by cases b <;> decide
theorem sign_app (c : UInt8) (r : Bs) : sign (c :: r ++ 10 :: x) = sign (c :: r) := by
  cases r with
  | nil =>
    simp only [sign, List.cons_append, List.nil_append]
    have h1 : [[45, 62], [58, 58], [59, 59]].contains ((c :: 10 :: x).take 2) = false := by simp
    have h2 : [[45, 62], [58, 58], [59, 59]].contains ([c].take 2) = false := by simp
    rw [h1, h2]
  | cons d r => simp [sign]
theorem token_app (c : UInt8) (r : Bs) : token (c :: r ++ 10 :: x) = token (c :: r) := by
  have h1 : ∀ b, run b (c :: r ++ 10 :: x) = run b (c :: r) := fun b => count_app x _ (name10 b) _
  have h2 := sign_app x c r
  have h3 : count digit (r ++ 10 :: x) = count digit r := count_app x _ (by decide) _
  have h4 : (c :: (r ++ 10 :: x)).take (run true (c :: r)) = (c :: r).take (run true (c :: r)) := by
    exact List.take_append_of_le_length (l₁ := c :: r) (count_lt _ _)
  rw [List.cons_append] at h1 h2 ⊢
  rw [token.eq_def, token.eq_def (c :: r)]
  dsimp only
  rw [h1, h2, h3, h4]
  cases r with
  | nil => simp only [List.nil_append]; rfl
  | cons d r' =>
    have h5 : run false (d :: r' ++ 10 :: x) = run false (d :: r') := count_app x _ (name10 _) _
    simp only [List.cons_append] at h5 ⊢
    rw [h5]
theorem nothing_app : ∀ r : Bs, nothing (r ++ 10 :: x) = nothing r
  | [] => by simp [nothing, white]
  | c :: r => by
    have h1 := opens_app x c r
    have h2 := token_app x c r
    rw [List.cons_append] at h1 h2 ⊢
    rw [nothing, nothing, h1, h2, nothing_app r]
theorem lexF_app : ∀ (n k : Nat) (l : Bs), l.length ≤ n → (∀ t, (lexF n k l).getLast? = some t → t.kind ≠ 7) → ∀ m, (l ++ 10 :: x).length ≤ m → lexF m k (l ++ 10 :: x) = lexF n k l ++ lexF (10 :: x).length (k + l.length) (10 :: x) := by
  intro n
  induction n with
  | zero =>
    intro k l h _ m hm
    have : l = [] := List.eq_nil_of_length_eq_zero (by omega)
    subst this
    rw [lexF_fuel m _ _ hm]; simp [lexF]
  | succ n ih =>
    intro k l h hk m hm
    cases l with
    | nil => rw [lexF_fuel m _ _ hm]; simp [lexF]
    | cons c r =>
      cases m with
      | zero => simp at hm
      | succ m =>
        simp only [List.length_cons] at h
        have hlm : (r ++ 10 :: x).length ≤ m := by simp at hm ⊢; omega
        have ho := opens_app x c r
        have ht := token_app x c r
        have hnt := nothing_app x r
        have hdrop : ∀ q, q ≤ (c :: r).length → (c :: r ++ 10 :: x).drop q = (c :: r).drop q ++ 10 :: x := fun q hq => List.drop_append_of_le_length hq
        have step : ∀ q, 1 ≤ q → q ≤ (c :: r).length → (∀ t, (lexF n (k + q) ((c :: r).drop q)).getLast? = some t → t.kind ≠ 7) → lexF m (k + q) ((c :: r ++ 10 :: x).drop q) = lexF n (k + q) ((c :: r).drop q) ++ lexF (10 :: x).length (k + (c :: r).length) (10 :: x) := fun q h1 h2 h3 => by
          rw [hdrop q h2]
          have := ih (k + q) ((c :: r).drop q) (by simp; omega) h3 m (by simp at hlm ⊢; omega)
          rw [this]
          congr 2
          simp at h2 ⊢
          omega
        rw [List.cons_append] at ho ht step ⊢
        have hrm := remark_le 0 (c :: r)
        have htl := token_le (c :: r)
        have hnl := nothing_le r
        rw [lexF] at hk
        rw [lexF, lexF, ho, ht, hnt]
        split
        · rename_i h1
          rw [if_pos h1] at hk
          have := step 1 (Nat.le_refl _) (by simp) hk
          simpa using this
        · rename_i h1
          rw [if_neg h1] at hk
          split
          · rename_i h2
            rw [if_pos h2] at hk
            by_cases h3 : (remark 0 (c :: r)).2 = true
            · rw [if_pos h3] at hk
              have hra := remark_app (10 :: x) 0 (c :: r) h3
              rw [List.cons_append] at hra
              rw [hra, if_pos h3, if_pos h3]
              exact step _ (Nat.le_trans (by decide) (remark_two h2)) hrm hk
            · rw [if_neg h3] at hk
              exact absurd rfl (hk _ rfl)
          · rename_i h2
            rw [if_neg h2] at hk
            split
            · rename_i h3
              rw [if_pos h3] at hk
              rw [step _ (by omega) (by simp; omega) (fun t ht' => hk t (by rw [List.getLast?_cons, ht']; rfl))]
              rfl
            · rename_i h3
              rw [if_neg h3] at hk
              rw [step _ (by omega) htl (fun t ht' => hk t (by rw [List.getLast?_cons, ht']; rfl))]
              rfl
end

/-- The two texts, ";;" between. -/
def joined (s t : ByteArray) : ByteArray := s ++ ⟨#[10, 59, 59, 10]⟩ ++ t
theorem joined_data (s t : ByteArray) : (joined s t).data.toList = s.data.toList ++ 10 :: 59 :: 59 :: 10 :: t.data.toList := by
  simp [joined, ByteArray.data_append]
theorem joined_size (s t : ByteArray) : (joined s t).size = s.size + 4 + t.size := by
  simp only [joined, ByteArray.size_append]
  rfl
theorem lex_sep (k : Nat) (l : Bs) : lexF (10 :: 59 :: 59 :: 10 :: l).length k (10 :: 59 :: 59 :: 10 :: l) = ⟨6, k + 1, k + 3⟩ :: lexF l.length (k + 4) l := by
  have h1 : white (10 : UInt8).toNat = true := by decide
  have h2 : white (59 : UInt8).toNat = false := by decide
  have h3 : opens (59 :: 59 :: 10 :: l) = false := by simp [opens]
  have h4 : token (59 :: 59 :: 10 :: l) = (6, 2) := by
    rw [token.eq_def]; simp [small, great, digit, sign]
  simp only [List.length_cons]
  rw [lexF, if_pos h1, lexF, if_neg (by rw [h2]; decide), if_neg (by rw [h3]; decide), h4, if_neg (by decide)]
  simp only [List.drop_succ_cons, List.drop_zero]
  rw [lexF, if_pos h1, lexF_fuel (l.length + 1) _ l (by omega), show k + 1 + 2 = k + 3 by omega, show k + 3 + 1 = k + 4 by omega]
theorem lex_joined (s t : ByteArray) (h : ∀ x, (lex s).getLast? = some x → x.kind ≠ 7) : lex (joined s t) = lex s ++ ⟨6, s.size + 1, s.size + 3⟩ :: (lex t).map (shiftT (s.size + 4)) := by
  have hl : (joined s t).data.toList.length = (joined s t).size := by simp
  unfold lex
  rw [joined_data]
  rw [lexF_app _ s.size 0 s.data.toList (by simp) h _ (by rw [← joined_data, hl]; exact Nat.le_refl _), lex_sep]
  have e : s.data.toList.length = s.size := by simp
  have e' : t.data.toList.length = t.size := by simp
  rw [e, e', show 0 + s.size + 4 = 0 + (s.size + 4) by omega, lexF_shift, show 0 + s.size + 1 = s.size + 1 by omega, show 0 + s.size + 3 = s.size + 3 by omega]

theorem ba_of {a b : ByteArray} (h : a.data.toList = b.data.toList) : a = b := ByteArray.ext (Array.toList_inj.1 h)
theorem ext_left {s : ByteArray} (t : ByteArray) {lo hi : Nat} (h1 : lo ≤ hi) (h2 : hi ≤ s.size) : (joined s t).extract lo hi = s.extract lo hi := by
  apply ba_of
  rw [ext_toList, ext_toList]
  unfold sfx
  have e : s.data.toList.length = s.size := by simp
  rw [joined_data, List.drop_append_of_le_length (by omega), List.take_append_of_le_length (by rw [List.length_drop]; omega)]
theorem ext_right (s t : ByteArray) (lo hi : Nat) : (joined s t).extract (lo + (s.size + 4)) (hi + (s.size + 4)) = t.extract lo hi := by
  apply ba_of
  rw [ext_toList, ext_toList]
  unfold sfx
  have e : s.data.toList.length = s.size := by simp
  rw [joined_data, show lo + (s.size + 4) = s.data.toList.length + (4 + lo) by omega, List.drop_append, show hi + (s.size + 4) - (s.data.toList.length + (4 + lo)) = hi - lo by omega]
  congr 1
  rw [List.drop_eq_nil_of_le (by omega), List.nil_append, show s.data.toList.length + (4 + lo) - s.data.toList.length = lo + 4 by omega]
  rfl
theorem sep_left {s : ByteArray} (t : ByteArray) {x : Tok} (h1 : x.lo ≤ x.hi) (h2 : x.hi ≤ s.size) : isSep (joined s t) x = isSep s x := by
  unfold isSep tokIs wordOf
  have h3 : x.hi ≤ (joined s t).size := by rw [joined_size]; omega
  rw [if_pos ⟨h1, h3⟩, if_pos ⟨h1, h2⟩, ext_left t h1 h2]
theorem sep_right (s : ByteArray) {t : ByteArray} {x : Tok} (h1 : x.lo ≤ x.hi) (h2 : x.hi ≤ t.size) : isSep (joined s t) (shiftT (s.size + 4) x) = isSep t x := by
  unfold isSep tokIs wordOf shiftT
  dsimp only
  rw [if_pos ⟨by omega, by rw [joined_size]; omega⟩, if_pos ⟨h1, h2⟩, ext_right]
theorem sep_mid (s t : ByteArray) : isSep (joined s t) ⟨6, s.size + 1, s.size + 3⟩ = true := by
  unfold isSep tokIs wordOf
  rw [if_pos ⟨by simp, by rw [joined_size]; simp; omega⟩]
  dsimp only
  rw [ba_toList, ba_toList, ext_toList]
  unfold sfx
  have e : s.data.toList.length = s.size := by simp
  rw [joined_data, List.drop_append, List.drop_eq_nil_of_le (by omega), show s.size + 3 - (s.size + 1) = 2 by omega, show s.size + 1 - s.data.toList.length = 1 by omega]
  simp
def shiftS (d : Nat) (r : Nat × Nat) : Nat × Nat := (r.1 + d, r.2 + d)
theorem spansL_right (s : ByteArray) {t : ByteArray} : ∀ (ts : List Tok) (o : Option (Nat × Nat)), (∀ x ∈ ts, x.lo ≤ x.hi ∧ x.hi ≤ t.size) → spansL (joined s t) (o.map (shiftS (s.size + 4))) (ts.map (shiftT (s.size + 4))) = (spansL t o ts).map (shiftS (s.size + 4))
  | [], none, _ => rfl
  | [], some r, _ => rfl
  | x :: ts, o, h => by
    have hx := h x (by simp)
    have ht : ∀ y ∈ ts, y.lo ≤ y.hi ∧ y.hi ≤ t.size := fun y hy => h y (by simp [hy])
    have e1 := spansL_right s ts none ht
    rw [List.map_cons]
    cases o with
    | none =>
      have e2 := spansL_right s ts (some (x.lo, x.hi)) ht
      simp only [Option.map_none, Option.map_some] at e1 e2 ⊢
      rw [spansL, spansL, sep_right s hx.1 hx.2]
      split
      · simpa using e1
      · exact e2
    | some r =>
      have e2 := spansL_right s ts (some (r.1, x.hi)) ht
      simp only [Option.map_none, Option.map_some] at e1 e2 ⊢
      rw [spansL, spansL, sep_right s hx.1 hx.2]
      split
      · simpa using e1
      · exact e2
theorem spansL_left {s : ByteArray} (t : ByteArray) (rest : List Tok) : ∀ (ts : List Tok) (o : Option (Nat × Nat)), (∀ x ∈ ts, x.lo ≤ x.hi ∧ x.hi ≤ s.size) → spansL (joined s t) o (ts ++ ⟨6, s.size + 1, s.size + 3⟩ :: rest) = spansL s o ts ++ spansL (joined s t) none rest
  | [], none, _ => by simp only [List.nil_append, spansL, sep_mid s t, if_true, Option.toList]
  | [], some r, _ => by simp only [List.nil_append, spansL, sep_mid s t, if_true, Option.toList]
  | x :: ts, o, h => by
    have hx := h x (by simp)
    have ht : ∀ y ∈ ts, y.lo ≤ y.hi ∧ y.hi ≤ s.size := fun y hy => h y (by simp [hy])
    have e1 := spansL_left t rest ts none ht
    rw [List.cons_append]
    cases o with
    | none =>
      have e2 := spansL_left t rest ts (some (x.lo, x.hi)) ht
      rw [spansL, spansL, sep_left t hx.1 hx.2]
      split
      · simpa using e1
      · exact e2
    | some r =>
      have e2 := spansL_left t rest ts (some (r.1, x.hi)) ht
      rw [spansL, spansL, sep_left t hx.1 hx.2]
      split
      · rw [e1, List.append_assoc]
      · exact e2
theorem lex_in (s : ByteArray) : ∀ x ∈ lex s, x.lo ≤ x.hi ∧ x.hi ≤ s.size := fun x hx => by
  have := (lex_rises s).mem x hx
  exact ⟨by omega, this.2.2⟩
theorem spans_joined (s t : ByteArray) (h : ∀ x, (lex s).getLast? = some x → x.kind ≠ 7) : spans (joined s t) = spans s ++ (spans t).map (shiftS (s.size + 4)) := by
  unfold spans
  rw [lex_joined s t h, spansL_left t _ _ _ (lex_in s)]
  congr 1
  exact spansL_right s (lex t) none (lex_in t)
def shiftD (d : Nat) (x : Dc) : Dc := ⟨x.lo + d, x.hi + d, x.nodes, x.flt⟩
theorem declOf_eq (s : ByteArray) (r : Nat × Nat) : declOf s r = ⟨r.1, r.2, (one (subtext s r)).1, (one (subtext s r)).2⟩ := rfl
theorem declOf_left {s : ByteArray} (t : ByteArray) {r : Nat × Nat} (h1 : r.1 ≤ r.2) (h2 : r.2 ≤ s.size) : declOf (joined s t) r = declOf s r := by
  have e : subtext (joined s t) r = subtext s r := ext_left t h1 h2
  rw [declOf_eq, declOf_eq, e]
theorem declOf_right (s t : ByteArray) (r : Nat × Nat) : declOf (joined s t) (shiftS (s.size + 4) r) = shiftD (s.size + 4) (declOf t r) := by
  have e : subtext (joined s t) (shiftS (s.size + 4) r) = subtext t r := ext_right s t r.1 r.2
  rw [declOf_eq, declOf_eq, e]
  generalize one (subtext t r) = q
  unfold shiftS shiftD
  rw [Dc.mk.injEq]
  exact ⟨Int.natCast_add _ _, Int.natCast_add _ _, rfl, rfl⟩
theorem map_left {s : ByteArray} (t : ByteArray) : ∀ l : List (Nat × Nat), (∀ r ∈ l, r.1 ≤ r.2 ∧ r.2 ≤ s.size) → l.map (declOf (joined s t)) = l.map (declOf s)
  | [], _ => rfl
  | r :: l, h => by rw [List.map_cons, List.map_cons, declOf_left t (h r (by simp)).1 (h r (by simp)).2, map_left t l fun q hq => h q (by simp [hq])]
theorem map_right (s t : ByteArray) : ∀ l : List (Nat × Nat), (l.map (shiftS (s.size + 4))).map (declOf (joined s t)) = (l.map (declOf t)).map (shiftD (s.size + 4))
  | [] => rfl
  | r :: l => by rw [List.map_cons, List.map_cons, List.map_cons, List.map_cons, declOf_right, map_right s t l]
theorem parse_eq (s : ByteArray) : parse s = (spans s).map (declOf s) := rfl
theorem parse_joined (s t : ByteArray) (h : ∀ x, (lex s).getLast? = some x → x.kind ≠ 7) : parse (joined s t) = parse s ++ (parse t).map (shiftD (s.size + 4)) := by
  rw [parse_eq, parse_eq s, parse_eq t, spans_joined s t h, List.map_append, map_left t _ (spans_ok s), map_right]
end Go.Proofs.Ytkiijfgoaeiphaa

/- Plain: the tokens of a text that is cut at the end of a token. -/
set_option linter.unusedVariables false
set_option linter.unusedSimpArgs false
namespace Go.Proofs.Ytkiijfgoaeiphaa

theorem count_cut (p : Nat → Bool) : ∀ (l : Bs) (d : Nat), count p l ≤ d → count p (l.take d) = count p l
  | [], d, _ => by simp
  | c :: r, 0, h => by
    rw [count] at h ⊢
    split at h
    · omega
    · rename_i hp; simp [count]; simpa using hp
  | c :: r, d + 1, h => by
    rw [List.take_succ_cons, count, count]
    rw [count] at h
    split
    · rename_i hp
      rw [if_pos hp] at h
      rw [count_cut p r d (by omega)]
    · rfl
theorem sign_cut (c : UInt8) (r : Bs) (d : Nat) (h : sign (c :: r) ≤ d + 1) : sign (c :: r.take d) = sign (c :: r) := by
  cases d with
  | zero =>
    simp only [List.take_zero]
    have h2 : [[45, 62], [58, 58], [59, 59]].contains ([c].take 2) = false := by simp
    unfold sign at h ⊢
    dsimp only at h ⊢
    rw [h2]
    split at h
    · omega
    · rename_i h1; rw [if_neg (by decide), if_neg h1]
  | succ d =>
    cases r with
    | nil => simp
    | cons b r => simp [sign]
theorem token_cut (c : UInt8) (r : Bs) (d : Nat) (h : (token (c :: r)).2 ≤ d + 1) : token (c :: r.take d) = token (c :: r) := by
  rw [token.eq_def] at h
  rw [token.eq_def, token.eq_def (c :: r)]
  dsimp only at h ⊢
  have hrun : run true (c :: r) ≤ d + 1 → run true (c :: r.take d) = run true (c :: r) := fun hr => by
    have := count_cut (nameByte true) (c :: r) (d + 1) hr
    rwa [List.take_succ_cons] at this
  split
  · rename_i h1
    rw [if_pos h1] at h
    rw [hrun h]
    congr 2
    rw [← List.take_succ_cons, List.take_take, Nat.min_eq_left h]
  · rename_i h1
    rw [if_neg h1] at h
    split
    · rename_i h2
      rw [if_pos h2] at h
      rw [hrun h]
    · rename_i h2
      rw [if_neg h2] at h
      split
      · rename_i h3
        rw [if_pos h3] at h
        rw [count_cut digit r d (by dsimp only at h; omega)]
      · rename_i h3
        rw [if_neg h3] at h
        split
        · rename_i h4
          rw [if_pos h4] at h
          cases r with
          | nil => simp
          | cons b r' =>
            dsimp only at h
            cases d with
            | zero =>
              simp only [List.take_zero]
              split at h
              · rename_i h5
                have : 1 ≤ run false (b :: r') := by
                  unfold run
                  rw [count, if_pos (by unfold nameByte; rw [h5]; rfl)]; omega
                dsimp only at h; omega
              · rename_i h5; rw [if_neg h5]
            | succ d =>
              rw [List.take_succ_cons]
              dsimp only
              split
              · rename_i h5
                rw [if_pos h5] at h
                have := count_cut (nameByte false) (b :: r') (d + 1) (by dsimp only at h; unfold run at h; omega)
                rw [List.take_succ_cons] at this
                unfold run
                rw [this]
              · rfl
        · rename_i h4
          rw [if_neg h4] at h
          by_cases h5 : 0 < sign (c :: r)
          · rw [if_pos h5] at h ⊢
            rw [sign_cut c r d h, if_pos h5]
          · rw [if_neg h5]
            rw [sign_cut c r d (by omega), if_neg h5]
theorem token_paren (r : Bs) : (token (40 :: r)).2 = 1 ∧ ∀ c : UInt8, c.toNat = 40 → (token (c :: r)).2 = 1 := by
  have h1 : (token (40 :: r)).2 = 1 := by
    rw [token.eq_def]
    have : sign (40 :: r) = 1 := by
      unfold sign
      have : [[45, 62], [58, 58], [59, 59]].contains ((40 :: r).take 2) = false := by
        cases r <;> simp
      dsimp only
      rw [this]; rfl
    dsimp only
    rw [this]; rfl
  refine ⟨h1, fun c hc => ?_⟩
  have : c = 40 := UInt8.toNat_inj.1 hc
  subst this
  exact h1
theorem opens_paren {c : UInt8} {r : Bs} (h : opens (c :: r) = true) : c.toNat = 40 := by
  cases r with
  | nil => cases h
  | cons b r => simp only [opens, Bool.and_eq_true, beq_iff_eq] at h; exact h.1
theorem white_token {c : UInt8} {r : Bs} (h : white c.toNat = true) : (token (c :: r)).2 = 0 := by
  have hc : c.toNat = 32 ∨ c.toNat = 9 ∨ c.toNat = 10 ∨ c.toNat = 13 := by simpa [white, or_assoc] using h
  have hs : sign (c :: r) = 0 := by
    have hcc : c = 32 ∨ c = 9 ∨ c = 10 ∨ c = 13 := by
      rcases hc with h | h | h | h
      · exact .inl (UInt8.toNat_inj.1 h)
      · exact .inr (.inl (UInt8.toNat_inj.1 h))
      · exact .inr (.inr (.inl (UInt8.toNat_inj.1 h)))
      · exact .inr (.inr (.inr (UInt8.toNat_inj.1 h)))
    rcases hcc with rfl | rfl | rfl | rfl <;> (unfold sign; cases r <;> simp)
  rw [token.eq_def]
  dsimp only
  rw [hs]
  rcases hc with h | h | h | h <;> (rw [h]; simp [small, great, digit])
theorem opens_cut {c : UInt8} {r : Bs} (d : Nat) (h : opens (c :: r) = false) : opens (c :: r.take d) = false := by
  cases d with
  | zero => rfl
  | succ d => cases r with
    | nil => exact h
    | cons b r => exact h
theorem nothing_cut : ∀ (r : Bs) (d : Nat), nothing r ≤ d → (d = nothing r ∨ (token (r.drop (nothing r))).2 ≤ d - nothing r) → nothing (r.take d) = nothing r
  | [], _, _, _ => by simp
  | c :: r, 0, h, _ => by rw [List.take_zero, Nat.le_zero.1 h]; rfl
  | c :: r, d + 1, h, ht => by
    rw [List.take_succ_cons, nothing, nothing]
    rw [nothing] at h ht
    by_cases hs : (white c.toNat || opens (c :: r) || decide (0 < (token (c :: r)).2)) = true
    · rw [if_pos hs] at h ht ⊢
      have htk : (token (c :: r)).2 ≤ d + 1 := by
        rcases ht with ht | ht
        · omega
        · simpa using ht
      have := token_cut c r d htk
      rw [if_pos]
      rw [this]
      simp only [Bool.or_eq_true, decide_eq_true_eq] at hs ⊢
      rcases hs with (hs | hs) | hs
      · exact .inl (.inl hs)
      · right
        have := (token_paren r).2 c (opens_paren hs)
        omega
      · exact .inr hs
    · rw [if_neg hs] at h ht
      have hs' := hs
      simp only [Bool.or_eq_true, decide_eq_true_eq, not_or] at hs
      obtain ⟨⟨h1, h2⟩, h3⟩ := hs
      have e1 := opens_cut (r := r) d (by simpa using h2)
      have e2 := token_cut c r d (by omega)
      rw [if_neg hs', if_neg (by rw [e1, e2]; simp; exact ⟨by simpa using h1, by omega⟩), nothing_cut r d (by omega) (by
        rcases ht with ht | ht
        · left; omega
        · right
          rw [List.drop_succ_cons] at ht
          omega)]
theorem remark_cut : ∀ (n : Int) (l : Bs) (d : Nat), (remark n l).2 = true → (remark n l).1 ≤ d → remark n (l.take d) = remark n l
  | _, [], _, h, _ => by simp [remark] at h
  | _, [_], _, h, _ => by simp [remark] at h
  | n, a :: b :: r, d, h, hd => by
    rw [remark] at h hd
    by_cases h1 : opens (a :: b :: r) = true
    · rw [if_pos h1] at h hd
      obtain ⟨d, rfl⟩ : ∃ d', d = d' + 2 := ⟨d - 2, by dsimp only at hd; omega⟩
      rw [List.take_succ_cons, List.take_succ_cons, remark, remark]
      have e1 : opens (a :: b :: r.take d) = opens (a :: b :: r) := rfl
      rw [e1, if_pos h1, if_pos h1, remark_cut (n + 1) r d h (by dsimp only at hd; omega)]
    · rw [if_neg h1] at h hd
      by_cases h2 : closes (a :: b :: r) = true
      · rw [if_pos h2] at h hd
        by_cases h3 : n - 1 = 0
        · rw [if_pos h3] at h hd
          obtain ⟨d, rfl⟩ : ∃ d', d = d' + 2 := ⟨d - 2, by dsimp only at hd; omega⟩
          rw [List.take_succ_cons, List.take_succ_cons, remark, remark]
          have e1 : opens (a :: b :: r.take d) = opens (a :: b :: r) := rfl
          have e2 : closes (a :: b :: r.take d) = closes (a :: b :: r) := rfl
          rw [e1, e2, if_neg h1, if_neg h1, if_pos h2, if_pos h2, if_pos h3, if_pos h3]
        · rw [if_neg h3] at h hd
          obtain ⟨d, rfl⟩ : ∃ d', d = d' + 2 := ⟨d - 2, by dsimp only at hd; omega⟩
          rw [List.take_succ_cons, List.take_succ_cons, remark, remark]
          have e1 : opens (a :: b :: r.take d) = opens (a :: b :: r) := rfl
          have e2 : closes (a :: b :: r.take d) = closes (a :: b :: r) := rfl
          rw [e1, e2, if_neg h1, if_neg h1, if_pos h2, if_pos h2, if_neg h3, if_neg h3, remark_cut (n - 1) r d h (by dsimp only at hd; omega)]
      · rw [if_neg h2] at h hd
        have h4 : 1 ≤ (remark n (b :: r)).1 := by
          cases r with
          | nil => simp [remark] at h
          | cons c r =>
            rw [remark]
            split
            · simp
            · split
              · split <;> simp
              · simp
        obtain ⟨d, rfl⟩ : ∃ d', d = d' + 2 := ⟨d - 2, by dsimp only at hd; omega⟩
        have ih := remark_cut n (b :: r) (d + 1) h (by dsimp only at hd; omega)
        rw [List.take_succ_cons] at ih
        rw [List.take_succ_cons, List.take_succ_cons, remark, remark]
        have e1 : opens (a :: b :: r.take d) = opens (a :: b :: r) := rfl
        have e2 : closes (a :: b :: r.take d) = closes (a :: b :: r) := rfl
        rw [e1, e2, if_neg h1, if_neg h1, if_neg h2, if_neg h2, ih]
termination_by _ l => l.length
theorem remark_all : ∀ (n : Int) (l : Bs), (remark n l).2 = false → (remark n l).1 = l.length
  | _, [], _ => rfl
  | _, [_], _ => rfl
  | n, a :: b :: r, h => by
    rw [remark] at h ⊢
    split
    · rename_i h1
      rw [if_pos h1] at h
      have := remark_all (n + 1) r h
      dsimp only; simp; omega
    · rename_i h1
      rw [if_neg h1] at h
      split
      · rename_i h2
        rw [if_pos h2] at h
        split
        · rename_i h3; rw [if_pos h3] at h; cases h
        · rename_i h3
          rw [if_neg h3] at h
          have := remark_all (n - 1) r h
          dsimp only; simp; omega
      · rename_i h2
        rw [if_neg h2] at h
        have := remark_all n (b :: r) h
        dsimp only; simp at this ⊢; omega
termination_by _ l => l.length
theorem first_end : ∀ (n k : Nat) (l : Bs) (t : Tok) (ts : List Tok), l.length ≤ n → lexF n k l = t :: ts → k + (token l).2 ≤ t.hi
  | 0, _, _, _, _, _, h => by simp [lexF] at h
  | _ + 1, _, [], _, _, _, h => by simp [lexF] at h
  | n + 1, k, c :: r, t, ts, hl, h => by
    have hr := lexF_rises (n + 1) k (c :: r) hl
    rw [h] at hr
    rw [lexF] at h
    split at h
    · rename_i h1
      have := hr.1; have := hr.2.1
      rw [white_token h1]; omega
    · split at h
      · rename_i h1 h2
        have ht := (token_paren r).2 c (opens_paren h2)
        have := hr.1; have := hr.2.1
        rw [ht]; omega
      · split at h
        · rename_i h3
          have := hr.1; have := hr.2.1
          rw [h3]; omega
        · injection h with h _
          subst h
          exact Nat.le_refl _
theorem lexF_cut : ∀ (n k : Nat) (l : Bs), l.length ≤ n → ∀ (j : Nat) (t : Tok), j + 1 < (lexF n k l).length → (lexF n k l)[j]? = some t → lexF n k (l.take (t.hi - k)) = (lexF n k l).take (j + 1) := by
  intro n
  induction n with
  | zero => intro k l h j t hj; simp [lexF] at hj
  | succ n ih =>
    intro k l h j t hj ht
    cases l with
    | nil => simp [lexF] at hj
    | cons c r =>
      simp only [List.length_cons] at h
      have hris := lexF_rises (n + 1) k (c :: r) (by simpa using h)
      have htm := hris.mem t (List.mem_of_getElem? ht)
      obtain ⟨d, hd⟩ : ∃ d, t.hi - k = d + 1 := ⟨t.hi - k - 1, by omega⟩
      rw [hd, List.take_succ_cons]
      rw [lexF] at hj ht
      rw [lexF, lexF]
      by_cases h1 : white c.toNat = true
      · rw [if_pos h1] at hj ht ⊢
        rw [if_pos h1]
        have := ih (k + 1) r (by omega) j t hj ht
        rwa [show t.hi - (k + 1) = d by omega] at this
      · rw [if_neg h1] at hj ht ⊢
        rw [if_neg h1]
        by_cases h2 : opens (c :: r) = true
        · rw [if_pos h2] at hj ht ⊢
          by_cases h3 : (remark 0 (c :: r)).2 = true
          · rw [if_pos h3] at hj ht ⊢
            have hm2 := remark_two h2
            have hml := remark_le 0 (c :: r)
            have hr2 := lexF_rises n (k + (remark 0 (c :: r)).1) ((c :: r).drop (remark 0 (c :: r)).1) (by simp; omega)
            have ht2 := hr2.mem t (List.mem_of_getElem? ht)
            have hrc := remark_cut 0 (c :: r) (d + 1) h3 (by omega)
            rw [List.take_succ_cons] at hrc
            have ho : opens (c :: r.take d) = true := by
              cases r with
              | nil => cases h2
              | cons b r =>
                obtain ⟨d', rfl⟩ : ∃ d', d = d' + 1 := ⟨d - 1, by omega⟩
                exact h2
            rw [if_pos ho, hrc, if_pos h3, ← List.take_succ_cons, List.drop_take]
            have := ih _ _ (by simp; omega) j t hj ht
            rwa [show t.hi - (k + (remark 0 (c :: r)).1) = d + 1 - (remark 0 (c :: r)).1 by omega] at this
          · rw [if_neg h3] at hj
            simp at hj
        · rw [if_neg h2] at hj ht ⊢
          have ho := opens_cut (r := r) d (by simpa using h2)
          rw [if_neg (by rw [ho]; decide)]
          by_cases h3 : (token (c :: r)).2 = 0
          · rw [if_pos h3] at hj ht ⊢
            have htc := token_cut c r d (by omega)
            rw [htc, if_pos h3]
            have hnl := nothing_le r
            cases j with
            | zero =>
              have ht' : (⟨7, k, k + (nothing r + 1)⟩ : Tok) = t := by simpa using ht
              subst ht'
              have hdn : d = nothing r := by dsimp only at hd; omega
              rw [nothing_cut r d (by omega) (.inl hdn), ← List.take_succ_cons, List.drop_take, hdn]
              simp [lexF_nil]
            | succ j =>
              have ht' : (lexF n (k + (nothing r + 1)) ((c :: r).drop (nothing r + 1)))[j]? = some t := by simpa using ht
              have hj' : j + 1 < (lexF n (k + (nothing r + 1)) ((c :: r).drop (nothing r + 1))).length := by simpa using hj
              have hlen2 : ((c :: r).drop (nothing r + 1)).length ≤ n := by simp; omega
              have hr2 := lexF_rises n (k + (nothing r + 1)) _ hlen2
              have ht2 := hr2.mem t (List.mem_of_getElem? ht')
              have hfe : (token (r.drop (nothing r))).2 ≤ d - nothing r := by
                cases hL : lexF n (k + (nothing r + 1)) ((c :: r).drop (nothing r + 1)) with
                | nil => rw [hL] at hj'; simp at hj'
                | cons t0 ts =>
                  have := first_end n (k + (nothing r + 1)) _ t0 ts hlen2 hL
                  rw [List.drop_succ_cons] at this
                  rw [hL] at ht' hr2
                  have hle : t0.hi ≤ t.hi := by
                    cases j with
                    | zero =>
                      have : t0 = t := by simpa using ht'
                      subst this; exact Nat.le_refl _
                    | succ j =>
                      have := hr2.2.2.mem t (List.mem_of_getElem? (i := j) (by simpa using ht'))
                      omega
                  omega
              have := ih _ _ hlen2 j t hj' ht'
              rw [nothing_cut r d (by omega) (.inr hfe), List.take_succ_cons, ← List.take_succ_cons, List.drop_take]
              rw [show t.hi - (k + (nothing r + 1)) = d + 1 - (nothing r + 1) by omega] at this
              rw [this]
          · rw [if_neg h3] at hj ht ⊢
            have htl := token_le (c :: r)
            have hlen2 : ((c :: r).drop (token (c :: r)).2).length ≤ n := by simp; omega
            cases j with
            | zero =>
              have ht' : (⟨(token (c :: r)).1, k, k + (token (c :: r)).2⟩ : Tok) = t := by simpa using ht
              subst ht'
              have hdn : (token (c :: r)).2 = d + 1 := by dsimp only at hd; omega
              have htc := token_cut c r d (by omega)
              rw [htc, if_neg h3, ← List.take_succ_cons, List.drop_take, hdn]
              simp [lexF_nil]
            | succ j =>
              have ht' : (lexF n (k + (token (c :: r)).2) ((c :: r).drop (token (c :: r)).2))[j]? = some t := by simpa using ht
              have hj' : j + 1 < (lexF n (k + (token (c :: r)).2) ((c :: r).drop (token (c :: r)).2)).length := by simpa using hj
              have hr2 := lexF_rises n (k + (token (c :: r)).2) _ hlen2
              have ht2 := hr2.mem t (List.mem_of_getElem? ht')
              have htc := token_cut c r d (by omega)
              have := ih _ _ hlen2 j t hj' ht'
              rw [htc, if_neg h3, List.take_succ_cons, ← List.take_succ_cons, List.drop_take]
              rw [show t.hi - (k + (token (c :: r)).2) = d + 1 - (token (c :: r)).2 by omega] at this
              rw [this]
end Go.Proofs.Ytkiijfgoaeiphaa

/- Plain: the parser on the tokens ahead of the one at which a fault is told. -/
set_option linter.unusedVariables false
set_option linter.unusedSimpArgs false
set_option linter.unusedSectionVars false
namespace Go.Proofs.Ytkiijfgoaeiphaa

/-- The text x, and x' of its first q tokens; lo: where token q begins. -/
structure Cut (x x' : Txt) (q lo : Nat) : Prop where
  len : x'.toks.length = q
  tok : ∀ i, i < q → x'.toks[i]? = x.toks[i]?
  word : ∀ i t, i < q → x.toks[i]? = some t → wordOf x'.s t = wordOf x.s t
  at_ : ∀ i t, x.toks[i]? = some t → t.lo = lo → i = q
  last : x.s.size ≠ lo
/-- What m does up to token q, m' does. -/
def Sim {α : Type} (q lo e : Nat) (m m' : M α) (st : PSt) : Prop :=
  match m st with
  | .ok a st1 => st.pos ≤ st1.pos ∧ (st1.pos ≤ q → m' st = .ok a st1)
  | .bad f => f.code = 1 → f.lo = lo → st.pos ≤ q ∧ m' st = .bad ⟨1, e, e⟩
  | .stuck => True
/-- m reads token q, if it is there. -/
def Eats {α : Type} (q lo : Nat) (m : M α) (st : PSt) : Prop :=
  match m st with
  | .ok _ st1 => st.pos < st1.pos
  | .bad f => f.code = 1 → f.lo = lo → st.pos < q
  | .stuck => True
section
variable {α β : Type} {q lo e : Nat}
theorem Sim.ret {a : α} {st : PSt} : Sim q lo e (M.ret a) (M.ret a) st := ⟨Nat.le_refl _, fun _ => rfl⟩
theorem Sim.here {f f' : PSt → α} {st : PSt} (h : st.pos ≤ q → f' st = f st) : Sim q lo e (fun st => .ok (f st) st) (fun st => .ok (f' st) st) st := ⟨Nat.le_refl _, fun hp => by show Res.ok (f' st) st = _; rw [h hp]⟩
theorem Sim.stuck {m' : M α} {st : PSt} : Sim q lo e (fun _ => .stuck) m' st := trivial
theorem Sim.bind {m m' : M α} {k k' : α → M β} {st : PSt} (h : Sim q lo e m m' st) (hk : ∀ a st1, m st = .ok a st1 → st.pos ≤ st1.pos → Sim q lo e (k a) (k' a) st1) : Sim q lo e (M.bind m k) (M.bind m' k') st := by
  unfold Sim at h ⊢
  simp only [M.bind]
  cases hm : m st with
  | ok a st1 =>
    rw [hm] at h
    have := hk a st1 hm h.1
    unfold Sim at this
    dsimp only
    cases hka : k a st1 with
    | ok b st2 =>
      rw [hka] at this
      exact ⟨Nat.le_trans h.1 this.1, fun hp => by rw [h.2 (Nat.le_trans this.1 hp)]; exact this.2 hp⟩
    | bad f =>
      rw [hka] at this
      exact fun h1 h2 => ⟨Nat.le_trans h.1 (this h1 h2).1, by rw [h.2 (this h1 h2).1]; exact (this h1 h2).2⟩
    | stuck => trivial
  | bad f =>
    rw [hm] at h
    exact fun h1 h2 => ⟨(h h1 h2).1, by rw [(h h1 h2).2]⟩
  | stuck => trivial
theorem Sim.then {m m' : M α} {k k' : α → M β} {st : PSt} (h : Sim q lo e m m' st) (hk : ∀ a st1, Sim q lo e (k a) (k' a) st1) : Sim q lo e (M.bind m k) (M.bind m' k') st := h.bind fun a st1 _ _ => hk a st1
theorem Eats.bind {m m' : M α} {k k' : α → M β} {st : PSt} (hq : st.pos = q) (h : Eats q lo m st) (hk : ∀ a st1, Sim q lo e (k a) (k' a) st1) : Eats q lo (M.bind m k) st := by
  unfold Eats at h ⊢
  simp only [M.bind]
  cases hm : m st with
  | ok a st1 =>
    rw [hm] at h
    have := hk a st1
    unfold Sim at this
    dsimp only
    cases hka : k a st1 with
    | ok b st2 => rw [hka] at this; exact Nat.lt_of_lt_of_le h this.1
    | bad f => rw [hka] at this; exact fun h1 h2 => by have := (this h1 h2).1; dsimp only at h; omega
    | stuck => trivial
  | bad f => rw [hm] at h; exact h
  | stuck => trivial
/-- A choice by what stands at the place: c' sees no token q. -/
theorem Sim.ite {c c' : PSt → Bool} {m1 m2 m1' m2' : M α} {st : PSt} (hlt : st.pos < q → c' st = c st) (hge : st.pos = q → c' st = false)
    (h1 : c st = true → Sim q lo e m1 m1' st) (h2 : c st = false → Sim q lo e m2 m2' st) (he : c st = true → st.pos = q → Eats q lo m1 st) :
    Sim q lo e (fun st => if c st then m1 st else m2 st) (fun st => if c' st then m1' st else m2' st) st := by
  unfold Sim
  dsimp only
  cases hc : c st with
  | true =>
    rw [if_pos rfl]
    have hs := h1 hc
    unfold Sim at hs
    rcases Nat.lt_trichotomy st.pos q with hp | hp | hp
    · rw [if_pos ((hlt hp).trans hc)]; exact hs
    · have heat := he hc hp
      unfold Eats at heat
      cases hm : m1 st with
      | ok a st1 => rw [hm] at heat; exact ⟨Nat.le_of_lt heat, fun h => by dsimp only at heat; omega⟩
      | bad f => rw [hm] at heat; exact fun a b => by have := heat a b; omega
      | stuck => trivial
    · cases hm : m1 st with
      | ok a st1 => rw [hm] at hs; exact ⟨hs.1, fun h => by have := hs.1; omega⟩
      | bad f => rw [hm] at hs; exact fun a b => by have := (hs a b).1; omega
      | stuck => trivial
  | false =>
    rw [if_neg (by decide)]
    have hs := h2 hc
    unfold Sim at hs
    rcases Nat.lt_trichotomy st.pos q with hp | hp | hp
    · rw [if_neg (by rw [hlt hp, hc]; decide)]; exact hs
    · rw [if_neg (by rw [hge hp]; decide)]; exact hs
    · cases hm : m2 st with
      | ok a st1 => rw [hm] at hs; exact ⟨hs.1, fun h => by have := hs.1; omega⟩
      | bad f => rw [hm] at hs; exact fun a b => by have := (hs a b).1; omega
      | stuck => trivial
theorem Sim.cond {c : Prop} [Decidable c] {m1 m2 m1' m2' : M α} {st : PSt} (h1 : Sim q lo e m1 m1' st) (h2 : Sim q lo e m2 m2' st) : Sim q lo e (if c then m1 else m2) (if c then m1' else m2') st := by
  split
  · exact h1
  · exact h2
end
section
variable {x x' : Txt} {q lo e : Nat} (hC : Cut x x' q lo) (he : x'.s.size = e)
include hC
theorem cut_none {i : Nat} (h : q ≤ i) : x'.toks[i]? = none := List.getElem?_eq_none (by rw [hC.len]; exact h)
theorem isW_lt' {w : ByteArray} {st : PSt} (h : st.pos < q) : isW x' w st = isW x w st := by
  unfold isW
  rw [hC.tok _ h]
  cases ht : x.toks[st.pos]? with
  | none => rfl
  | some t => dsimp only; unfold tokIs; rw [hC.word _ _ h ht]
theorem isW_at {w : ByteArray} {st : PSt} (h : st.pos = q) : isW x' w st = false := by
  unfold isW; rw [cut_none hC (Nat.le_of_eq h.symm)]
theorem isK_lt' {k : Nat} {st : PSt} (h : st.pos < q) : isK x' k st = isK x k st := by unfold isK; rw [hC.tok _ h]
theorem isK_at {k : Nat} {st : PSt} (h : st.pos = q) : isK x' k st = false := by unfold isK; rw [cut_none hC (Nat.le_of_eq h.symm)]
theorem number_lt' {st : PSt} (h : st.pos < q) : number x' st = number x st := by
  unfold number
  rw [hC.tok _ h]
  cases ht : x.toks[st.pos]? with
  | none => rfl
  | some t => dsimp only; rw [hC.word _ _ h ht]
theorem number_at {st : PSt} (h : st.pos = q) : number x' st = (0, false) := by unfold number; rw [cut_none hC (Nat.le_of_eq h.symm)]
include he
theorem sim_fail {α : Type} {c : Nat} {st : PSt} : Sim q lo e (fail x c : M α) (fail x' c) st := by
  unfold Sim fail
  cases ht : x.toks[st.pos]? with
  | none => exact fun _ h => absurd h hC.last
  | some t =>
    intro h1 h2
    dsimp only at h1 h2
    have hp := hC.at_ _ _ ht h2
    subst h1
    rw [cut_none hC (Nat.le_of_eq hp.symm), he]
    exact ⟨Nat.le_of_eq hp, rfl⟩
omit he
theorem sim_next {st : PSt} : Sim q lo e (next x) (next x') st := by
  unfold Sim next
  cases ht : x.toks[st.pos]? with
  | none => trivial
  | some t => exact ⟨Nat.le_succ _, fun h => by rw [hC.tok _ h, ht]⟩
omit hC in
theorem eats_next {st : PSt} : Eats q lo (next x) st := by
  unfold Eats next
  cases ht : x.toks[st.pos]? with
  | none => trivial
  | some t => exact Nat.lt_succ_self _
end
section
variable {α β : Type} {q lo e : Nat}
theorem Eats.ite {c : PSt → Bool} {m1 m2 : M α} {st : PSt} (h1 : c st = true → Eats q lo m1 st) (h2 : c st = false → Eats q lo m2 st) : Eats q lo (fun st => if c st then m1 st else m2 st) st := by
  unfold Eats
  dsimp only
  cases hc : c st with
  | true => rw [if_pos rfl]; exact h1 hc
  | false => rw [if_neg (by decide)]; exact h2 hc
/-- m' may differ where m reads token q. -/
theorem Sim.swap {m m' m'' : M α} {st : PSt} (h : Sim q lo e m m'' st) (h1 : st.pos < q → m' st = m'' st) (h2 : q ≤ st.pos → Eats q lo m st) : Sim q lo e m m' st := by
  unfold Sim at h ⊢
  rcases Nat.lt_or_ge st.pos q with hp | hp
  · rw [h1 hp]; exact h
  · have he := h2 hp
    unfold Eats at he
    cases hm : m st with
    | ok a st1 => rw [hm] at h he; exact ⟨h.1, fun h => by dsimp only at he; omega⟩
    | bad f => rw [hm] at he; exact fun a b => by have := he a b; omega
    | stuck => trivial
theorem eats_bind {m : M α} {k k' : α → M β} {st : PSt} (h : Eats q lo m st) (hk : ∀ a st1, Sim q lo e (k a) (k' a) st1) : Eats q lo (M.bind m k) st := by
  unfold Eats at h ⊢
  simp only [M.bind]
  cases hm : m st with
  | ok a st1 =>
    rw [hm] at h
    have := hk a st1
    unfold Sim at this
    dsimp only
    cases hka : k a st1 with
    | ok b st2 => rw [hka] at this; exact Nat.lt_of_lt_of_le h this.1
    | bad f => rw [hka] at this; exact fun h1 h2 => by have := (this h1 h2).1; dsimp only at h; omega
    | stuck => trivial
  | bad f => rw [hm] at h; exact h
  | stuck => trivial
end
section
variable {x x' : Txt} {q lo e : Nat} (hC : Cut x x' q lo) (he : x'.s.size = e)
include hC
theorem next_word {α : Type} {k k' : Tok → ByteArray → M α} {st : PSt} (hk : ∀ t w st1, Sim q lo e (k t w) (k' t w) st1) : Sim q lo e (M.bind (next x) fun t => k t (wordOf x.s t)) (M.bind (next x') fun t => k' t (wordOf x'.s t)) st := by
  refine Sim.swap (m'' := M.bind (next x') fun t => k' t (wordOf x.s t)) (Sim.then (sim_next hC) fun t st1 => hk t _ st1) (fun hp => ?_) (fun hp => eats_bind eats_next fun t st1 => hk t _ st1)
  simp only [M.bind, next]
  rw [hC.tok _ hp]
  cases ht : x.toks[st.pos]? with
  | none => rfl
  | some t => dsimp only; rw [hC.word _ _ hp ht]
include he
theorem sim_take {w : ByteArray} {st : PSt} : Sim q lo e (take x w) (take x' w) st :=
  Sim.ite (c := fun st => isW x w st) (c' := fun st => isW x' w st) (isW_lt' hC) (isW_at hC) (fun _ => sim_next hC) (fun _ => sim_fail hC he) (fun _ _ => eats_next)
theorem sim_takeKind {k : Nat} {st : PSt} : Sim q lo e (takeKind x k) (takeKind x' k) st :=
  Sim.ite (c := fun st => isK x k st) (c' := fun st => isK x' k st) (isK_lt' hC) (isK_at hC) (fun _ => sim_next hC) (fun _ => sim_fail hC he) (fun _ _ => eats_next)
omit hC he in
theorem eats_take {w : ByteArray} {st : PSt} (h : isW x w st = true) : Eats q lo (take x w) st := by
  have := eats_next (x := x) (q := q) (lo := lo) (st := st)
  unfold Eats at this ⊢
  simp only [take, h, if_true]
  exact this
omit hC he in
theorem eats_takeKind {k : Nat} {st : PSt} (h : isK x k st = true) : Eats q lo (takeKind x k) st := by
  have := eats_next (x := x) (q := q) (lo := lo) (st := st)
  unfold Eats at this ⊢
  simp only [takeKind, h, if_true]
  exact this
theorem kind_word {α : Type} {c : Nat} {k k' : Tok → ByteArray → M α} {st : PSt} (hk : ∀ t w st1, Sim q lo e (k t w) (k' t w) st1) : Sim q lo e (M.bind (takeKind x c) fun t => k t (wordOf x.s t)) (M.bind (takeKind x' c) fun t => k' t (wordOf x'.s t)) st := by
  by_cases h : isK x c st = true
  · refine Sim.swap (m'' := M.bind (takeKind x' c) fun t => k' t (wordOf x.s t)) (Sim.then (sim_takeKind hC he) fun t st1 => hk t _ st1) (fun hp => ?_) (fun hp => eats_bind (eats_takeKind h) fun t st1 => hk t _ st1)
    simp only [M.bind, takeKind, isK_lt' hC hp, h, if_true, next]
    rw [hC.tok _ hp]
    cases ht : x.toks[st.pos]? with
    | none => rfl
    | some t => dsimp only; rw [hC.word _ _ hp ht]
  · have hf : takeKind x c st = fail x 1 st := by simp only [takeKind, h]; rfl
    have hs := sim_takeKind (k := c) (st := st) hC he
    unfold Sim at hs ⊢
    simp only [M.bind]
    rw [hf] at hs ⊢
    cases hb : (fail x 1 st : Res Tok) with
    | ok a st1 => unfold fail at hb; split at hb <;> cases hb
    | bad f => rw [hb] at hs; exact fun a b => ⟨(hs a b).1, by rw [(hs a b).2]⟩
    | stuck => trivial
omit he in
theorem sim_skip {w : ByteArray} {st : PSt} : Sim q lo e (skip x w) (skip x' w) st := by
  refine Sim.ite (c := fun st => isW x w st) (c' := fun st => isW x' w st) (m1 := fun st => .ok true { st with pos := st.pos + 1 }) (m1' := fun st => .ok true { st with pos := st.pos + 1 }) (m2 := fun st => .ok false st) (m2' := fun st => .ok false st) (isW_lt' hC) (isW_at hC) (fun _ => ⟨Nat.le_succ _, fun _ => rfl⟩) (fun _ => ⟨Nat.le_refl _, fun _ => rfl⟩) (fun _ _ => Nat.lt_succ_self _)
omit hC he in
theorem sim_add {n : Nd} {st : PSt} : Sim q lo e (add n) (add n) st := by
  unfold Sim add
  by_cases h : st.nodes.length < most
  · rw [if_pos h]; exact ⟨Nat.le_refl _, fun _ => rfl⟩
  · rw [if_neg h]; trivial
omit hC he in
theorem sim_from {k : Nat} {st : PSt} : Sim q lo e (fromOf k) (fromOf k) st := by
  unfold Sim fromOf
  cases st.nodes[k]? with
  | none => trivial
  | some n => exact ⟨Nat.le_refl _, fun _ => rfl⟩
omit hC he in
theorem sim_to {k : Nat} {st : PSt} : Sim q lo e (toOf k) (toOf k) st := by
  unfold Sim toOf
  cases st.nodes[k]? with
  | none => trivial
  | some n => exact ⟨Nat.le_refl _, fun _ => rfl⟩
end
end Go.Proofs.Ytkiijfgoaeiphaa

/- Plain: the parser on the tokens ahead of a fault: each function. -/
set_option linter.unusedVariables false
set_option linter.unusedSimpArgs false
set_option linter.unusedSectionVars false
namespace Go.Proofs.Ytkiijfgoaeiphaa

section
variable {α β : Type} {q lo e : Nat}
theorem Sim.far {m m' m'' : M α} {st : PSt} (hp : q < st.pos) (h : Sim q lo e m m'' st) : Sim q lo e m m' st := by
  unfold Sim at h ⊢
  cases hm : m st with
  | ok a st1 => rw [hm] at h; exact ⟨h.1, fun h1 => by have := h.1; omega⟩
  | bad f => rw [hm] at h; exact fun a b => by have := (h a b).1; omega
  | stuck => trivial
theorem eats_ok {m : M α} {st st1 : PSt} {a : α} (h : Eats q lo m st) (hm : m st = .ok a st1) : st.pos < st1.pos := by
  unfold Eats at h; rw [hm] at h; exact h
theorem eats_cond {c : Prop} [Decidable c] {m1 m2 : M α} {st : PSt} (h1 : Eats q lo m1 st) (h2 : Eats q lo m2 st) : Eats q lo (if c then m1 else m2) st := by
  split
  · exact h1
  · exact h2
theorem skip_true {x : Txt} {w : ByteArray} {st st1 : PSt} (h : skip x w st = .ok true st1) : st.pos < st1.pos := by
  unfold skip at h
  split at h
  · injection h with _ h; subst h; exact Nat.lt_succ_self _
  · injection h with h; cases h
end
section
variable {x x' : Txt} {q lo e : Nat} (hC : Cut x x' q lo) (he : x'.s.size = e)
include hC he
theorem sim_bind {st : PSt} : Sim q lo e (bind x) (bind x') st := kind_word hC he (k := fun t w => leaf 4 0 w t) (k' := fun t w => leaf 4 0 w t) fun _ _ _ => sim_add
omit hC he in
theorem eats_bindK (e : Nat) {st : PSt} (h : isK x 1 st = true) : Eats q lo (bind x) st := eats_bind (e := e) (k' := fun t => leaf 4 0 (wordOf x.s t) t) (eats_takeKind h) fun _ _ => sim_add
theorem sim_bindsL : ∀ (n n' : Nat) (l : List Int) (st : PSt), q < n' + st.pos → Sim q lo e (bindsL x n l) (bindsL x' n' l) st
  | 0, _, _, _, _ => Sim.stuck
  | n + 1, n', l, st, hn => by
    have step : ∀ p, q < p + 1 + st.pos → Sim q lo e (bindsL x (n + 1) l) (bindsL x' (p + 1) l) st := fun p hp =>
      Sim.ite (c := fun st => isK x 1 st) (c' := fun st => isK x' 1 st) (isK_lt' hC) (isK_at hC)
        (fun hc => Sim.bind (sim_bind hC he) fun b st1 hm _ => sim_bindsL n p _ st1 (by have := eats_ok (eats_bindK (q := q) (lo := lo) e hc) hm; omega))
        (fun _ => ⟨Nat.le_refl _, fun _ => rfl⟩)
        (fun hc hq => eats_bind (k' := fun (b : Nat) => bindsL x' (q + 1) (l ++ [(b : Int)])) (eats_bindK e hc) fun (b : Nat) st1 => sim_bindsL n (q + 1) (l ++ [(b : Int)]) st1 (by omega))
    cases n' with
    | zero => exact Sim.far (by omega) (step 0 (by omega))
    | succ p => exact step p (by omega)
theorem sim_binds {st : PSt} : Sim q lo e (binds x) (binds x') st := sim_bindsL hC he _ _ _ _ (by rw [hC.len]; omega)
omit hC he in
theorem sim_wrapL (first : Option Nat) : ∀ (l : List Int) (body : Nat) (st : PSt), Sim q lo e (wrapL first l body) (wrapL first l body) st
  | [], _, _ => Sim.ret
  | _ :: r, _, _ => Sim.then sim_from fun _ _ => Sim.then sim_to fun _ _ => Sim.then sim_add fun k _ => sim_wrapL first r k _
omit hC he in
theorem sim_wrap (bs : List Int) (first : Option Nat) (body : Nat) (st : PSt) : Sim q lo e (wrap bs first body) (wrap bs first body) st := sim_wrapL first _ _ _
omit he in
theorem sim_recM {st : PSt} : Sim q lo e (recM x) (recM x') st := Sim.then (sim_skip hC) fun _ _ => Sim.ret
omit hC he in
theorem sim_operate {name : ByteArray} {l r : Nat} {st : PSt} : Sim q lo e (operate name l r) (operate name l r) st := Sim.then sim_from fun _ _ => Sim.then sim_to fun _ _ => sim_add
omit he in
theorem isOne_ltC {signs : List ByteArray} {st : PSt} (h : st.pos < q) : isOne x' signs st = isOne x signs st := by
  unfold isOne
  induction signs with
  | nil => rfl
  | cons w r ih => rw [List.any_cons, List.any_cons, isW_lt' hC h, ih]
omit he in
theorem isOne_at {signs : List ByteArray} {st : PSt} (h : st.pos = q) : isOne x' signs st = false := by
  unfold isOne
  induction signs with
  | nil => rfl
  | cons w r ih => rw [List.any_cons, isW_at hC h, ih]; rfl
theorem sim_chainL {m m' : M Nat} (hm : ∀ st, Sim q lo e m m' st) (signs : List ByteArray) : ∀ (n n' left : Nat) (st : PSt), q < n' + st.pos → Sim q lo e (chainL x m signs n left) (chainL x' m' signs n' left) st
  | 0, _, _, _, _ => Sim.stuck
  | n + 1, n', left, st, hn => by
    have tl : ∀ p t w st1, q < p + st1.pos → Sim q lo e (M.bind m fun right => M.bind (operate w left right) fun k => chainL x m signs n k) (M.bind m' fun right => M.bind (operate w left right) fun k => chainL x' m' signs p k) st1 := fun p (t : Tok) w st1 h1 =>
      Sim.bind (hm _) fun right st2 _ h2 => Sim.bind sim_operate fun k st3 _ h3 => sim_chainL hm signs n p k st3 (by omega)
    have step : ∀ p, q < p + 1 + st.pos → Sim q lo e (chainL x m signs (n + 1) left) (chainL x' m' signs (p + 1) left) st := fun p hp =>
      Sim.ite (c := fun st => isOne x signs st) (c' := fun st => isOne x' signs st) (isOne_ltC hC) (isOne_at hC)
        (fun hc => Sim.swap (m'' := M.bind (next x') fun t => M.bind m' fun right => M.bind (operate (wordOf x.s t) left right) fun k => chainL x' m' signs p k)
          (Sim.bind (sim_next hC) fun t st1 h1 _ => tl p t _ st1 (by have := eats_ok (q := q) (lo := lo) eats_next h1; omega))
          (fun hp => by
            simp only [M.bind, next]
            rw [hC.tok _ hp]
            cases ht : x.toks[st.pos]? with
            | none => rfl
            | some t => dsimp only; rw [hC.word _ _ hp ht])
          (fun _ => eats_bind eats_next fun t st1 => tl (q + 1) t _ st1 (by omega)))
        (fun _ => ⟨Nat.le_refl _, fun _ => rfl⟩)
        (fun hc hq => eats_bind eats_next fun t st1 => tl (q + 1) t _ st1 (by omega))
    cases n' with
    | zero => exact Sim.far (by omega) (step 0 (by omega))
    | succ p => exact step p (by omega)
theorem sim_chain {m m' : M Nat} (hm : ∀ st, Sim q lo e m m' st) (signs : List ByteArray) (st : PSt) : Sim q lo e (chain x m signs) (chain x' m' signs) st :=
  Sim.then (hm _) fun left st1 => sim_chainL hC he hm signs _ _ _ _ (by rw [hC.len]; omega)
theorem sim_rowL {m m' : M Nat} (hm : ∀ st, Sim q lo e m m' st) : ∀ (n n' : Nat) (l : List Int) (st : PSt), q < n' + st.pos → Sim q lo e (rowL x m n l) (rowL x' m' n' l) st
  | 0, _, _, _, _ => Sim.stuck
  | n + 1, n', l, st, hn => by
    have step : ∀ p, q < p + 1 + st.pos → Sim q lo e (rowL x m (n + 1) l) (rowL x' m' (p + 1) l) st := fun p hp =>
      Sim.bind (sim_skip hC) fun b st1 h1 _ => by
        cases b with
        | true => exact Sim.bind (hm _) fun k st2 _ h2 => sim_rowL hm n p _ st2 (by have := skip_true h1; omega)
        | false => exact Sim.ret
    cases n' with
    | zero => exact Sim.far (by omega) (step 0 (by omega))
    | succ p => exact step p (by omega)
theorem sim_brackets {unit tuple : Nat} {m m' : M Nat} (hm : ∀ st, Sim q lo e m m' st) (st : PSt) : Sim q lo e (brackets x unit tuple m) (brackets x' unit tuple m') st :=
  Sim.then (sim_take hC he) fun t0 st1 => Sim.ite (c := fun st => isW x ⟨#[41]⟩ st) (c' := fun st => isW x' ⟨#[41]⟩ st) (isW_lt' hC) (isW_at hC)
    (fun _ => Sim.then (sim_next hC) fun _ _ => sim_add)
    (fun _ => Sim.then (hm _) fun k0 _ => Sim.then (sim_rowL hC he hm _ _ _ _ (by rw [hC.len]; omega)) fun kids _ => Sim.then (sim_take hC he) fun t _ => Sim.cond Sim.ret sim_add)
    (fun _ _ => eats_bind (e := e) (k' := fun t => add ⟨unit, t0.lo, t.hi, 0, ⟨#[]⟩, []⟩) eats_next fun _ _ => sim_add)
theorem eats_brackets {unit tuple : Nat} {m m' : M Nat} (hm : ∀ st, Sim q lo e m m' st) {st : PSt} (h : isW x ⟨#[40]⟩ st = true) : Eats q lo (brackets x unit tuple m) st :=
  eats_bind (e := e) (k' := fun t0 => fun st =>
    if isW x' ⟨#[41]⟩ st then M.bind (next x') (fun t => add ⟨unit, t0.lo, t.hi, 0, ⟨#[]⟩, []⟩) st
    else M.bind m' (fun k0 => M.bind (rowL x' m' (x'.toks.length + 1) [(k0 : Int)]) fun kids => M.bind (take x' ⟨#[41]⟩) fun t =>
      if kids.length = 1 then M.ret k0 else add ⟨tuple, t0.lo, t.hi, 0, ⟨#[]⟩, kids⟩) st) (eats_take h) fun t0 st1 => Sim.ite (c := fun st => isW x ⟨#[41]⟩ st) (c' := fun st => isW x' ⟨#[41]⟩ st) (isW_lt' hC) (isW_at hC)
    (fun _ => Sim.then (sim_next hC) fun _ _ => sim_add)
    (fun _ => Sim.then (hm _) fun k0 _ => Sim.then (sim_rowL hC he hm _ _ _ _ (by rw [hC.len]; omega)) fun kids _ => Sim.then (sim_take hC he) fun t _ => Sim.cond Sim.ret sim_add)
    (fun _ _ => eats_bind (e := e) (k' := fun t => add ⟨unit, t0.lo, t.hi, 0, ⟨#[]⟩, []⟩) eats_next fun _ _ => sim_add)
/-- A leaf behind one token. -/
theorem sim_leaf {kind : Nat} {f f' : PSt → Nat} (hf : ∀ st, st.pos < q → f' st = f st) {nm nm' : Tok → ByteArray} {st : PSt} (hn : ∀ t, st.pos < q → x.toks[st.pos]? = some t → nm' t = nm t) :
    Sim q lo e (M.bind (next x) fun t => leaf kind (f st) (nm t) t) (M.bind (next x') fun t => leaf kind (f' st) (nm' t) t) st :=
  Sim.swap (m'' := M.bind (next x') fun t => leaf kind (f st) (nm t) t) (Sim.then (sim_next hC) fun _ _ => sim_add)
    (fun hp => by
      simp only [M.bind, next]
      rw [hC.tok _ hp, hf _ hp]
      cases ht : x.toks[st.pos]? with
      | none => rfl
      | some t => dsimp only; rw [hn t hp ht])
    (fun _ => eats_bind (e := e) (k' := fun t => leaf kind (f st) (nm t) t) eats_next fun _ _ => sim_add)
omit hC he in
theorem eats_leaf (e : Nat) {kind num : Nat} {nm : Tok → ByteArray} {st : PSt} : Eats q lo (M.bind (next x) fun t => leaf kind num (nm t) t) st := eats_bind (e := e) (k' := fun t => leaf kind num (nm t) t) eats_next fun _ _ => sim_add
omit he in
theorem begins_ltC {st : PSt} (h : st.pos < q) : atomBegins x' st = atomBegins x st := by
  unfold atomBegins
  rw [isK_lt' hC h, isK_lt' hC h, isW_lt' hC h, isW_lt' hC h, isW_lt' hC h, number_lt' hC h]
omit he in
theorem begins_atC {st : PSt} (h : st.pos = q) : atomBegins x' st = false := by
  unfold atomBegins
  rw [isK_at hC h, isK_at hC h, isW_at hC h, isW_at hC h, isW_at hC h, number_at hC h]; rfl
/-- What an atom is, where one begins. -/
def atomIn (x : Txt) (E : M Nat) : M Nat := fun st =>
  if (number x st).2 then M.bind (next x) (fun t => leaf 7 (number x st).1 ⟨#[]⟩ t) st
    else if isK x 1 st then M.bind (next x) (fun t => leaf 5 0 (wordOf x.s t) t) st
    else if isK x 2 st then M.bind (next x) (fun t => leaf 6 0 (wordOf x.s t) t) st
    else if isW x ⟨#[116, 114, 117, 101]⟩ st then M.bind (next x) (fun t => leaf 8 1 ⟨#[]⟩ t) st
    else if isW x ⟨#[102, 97, 108, 115, 101]⟩ st then M.bind (next x) (fun t => leaf 8 0 ⟨#[]⟩ t) st
    else brackets x 9 10 E st
theorem eats_atomIn {E E' : M Nat} (hm : ∀ st, Sim q lo e E E' st) {st : PSt} (h : atomBegins x st = true) : Eats q lo (atomIn x E) st :=
  Eats.ite (c := fun st => (number x st).2) (m1 := fun st => M.bind (next x) (fun t => leaf 7 (number x st).1 ⟨#[]⟩ t) st) (fun _ => eats_leaf e) fun h1 => Eats.ite (c := fun st => isK x 1 st) (fun _ => eats_leaf e) fun h2 => Eats.ite (c := fun st => isK x 2 st) (fun _ => eats_leaf e) fun h3 =>
    Eats.ite (c := fun st => isW x ⟨#[116, 114, 117, 101]⟩ st) (fun _ => eats_leaf e) fun h4 => Eats.ite (c := fun st => isW x ⟨#[102, 97, 108, 115, 101]⟩ st) (fun _ => eats_leaf e) fun h5 => eats_brackets hC he hm (by
      unfold atomBegins at h
      rw [h1, h2, h3, h4, h5] at h
      simpa using h)
theorem sim_atomIn {E E' : M Nat} (hm : ∀ st, Sim q lo e E E' st) (st : PSt) : Sim q lo e (atomIn x E) (atomIn x' E') st :=
  Sim.ite (c := fun st => (number x st).2) (c' := fun st => (number x' st).2) (m1 := fun st => M.bind (next x) (fun t => leaf 7 (number x st).1 ⟨#[]⟩ t) st) (m1' := fun st => M.bind (next x') (fun t => leaf 7 (number x' st).1 ⟨#[]⟩ t) st)
    (fun h => by rw [number_lt' hC h]) (fun h => by rw [number_at hC h])
    (fun _ => sim_leaf hC he (f := fun st => (number x st).1) (f' := fun st => (number x' st).1) (nm := fun _ => ⟨#[]⟩) (nm' := fun _ => ⟨#[]⟩) (fun st h => by rw [number_lt' hC h]) fun _ _ _ => rfl)
    (fun _ => Sim.ite (c := fun st => isK x 1 st) (c' := fun st => isK x' 1 st) (isK_lt' hC) (isK_at hC) (fun _ => next_word hC (k := fun t w => leaf 5 0 w t) (k' := fun t w => leaf 5 0 w t) fun _ _ _ => sim_add)
      (fun _ => Sim.ite (c := fun st => isK x 2 st) (c' := fun st => isK x' 2 st) (isK_lt' hC) (isK_at hC) (fun _ => next_word hC (k := fun t w => leaf 6 0 w t) (k' := fun t w => leaf 6 0 w t) fun _ _ _ => sim_add)
        (fun _ => Sim.ite (c := fun st => isW x ⟨#[116, 114, 117, 101]⟩ st) (c' := fun st => isW x' ⟨#[116, 114, 117, 101]⟩ st) (isW_lt' hC) (isW_at hC) (fun _ => Sim.then (sim_next hC) fun _ _ => sim_add)
          (fun _ => Sim.ite (c := fun st => isW x ⟨#[102, 97, 108, 115, 101]⟩ st) (c' := fun st => isW x' ⟨#[102, 97, 108, 115, 101]⟩ st) (isW_lt' hC) (isW_at hC) (fun _ => Sim.then (sim_next hC) fun _ _ => sim_add)
            (fun _ => sim_brackets hC he hm _) (fun _ _ => eats_leaf e)) (fun _ _ => eats_leaf e)) (fun _ _ => eats_leaf e)) (fun _ _ => eats_leaf e)) (fun _ _ => eats_leaf e)
theorem sim_atom {E E' : M Nat} (hm : ∀ st, Sim q lo e E E' st) (st : PSt) : Sim q lo e (atom x E) (atom x' E') st :=
  Sim.ite (c := fun st => atomBegins x st) (c' := fun st => atomBegins x' st) (m1 := atomIn x E) (m1' := atomIn x' E') (begins_ltC hC) (begins_atC hC) (fun _ => sim_atomIn hC he hm _) (fun _ => sim_fail hC he) (fun h _ => eats_atomIn hC he hm h)
theorem eats_atom {E E' : M Nat} (hm : ∀ st, Sim q lo e E E' st) {st : PSt} (h : atomBegins x st = true) : Eats q lo (atom x E) st :=
  Eats.ite (c := fun st => atomBegins x st) (m1 := atomIn x E) (fun _ => eats_atomIn hC he hm h) (fun h1 => absurd (h.symm.trans h1) (by decide))
theorem sim_applyL {E E' : M Nat} (hm : ∀ st, Sim q lo e E E' st) : ∀ (n n' left : Nat) (st : PSt), q < n' + st.pos → Sim q lo e (applyL x E n left) (applyL x' E' n' left) st
  | 0, _, _, _, _ => Sim.stuck
  | n + 1, n', left, st, hn => by
    have tl : ∀ (p right : Nat) st1, q < p + st1.pos → Sim q lo e (M.bind (fromOf left) fun f => M.bind (toOf right) fun t => M.bind (add ⟨11, f, t, 0, ⟨#[]⟩, [(left : Int), (right : Int)]⟩) fun k => applyL x E n k) (M.bind (fromOf left) fun f => M.bind (toOf right) fun t => M.bind (add ⟨11, f, t, 0, ⟨#[]⟩, [(left : Int), (right : Int)]⟩) fun k => applyL x' E' p k) st1 := fun p right st1 h1 =>
      Sim.bind sim_from fun f st2 _ h2 => Sim.bind sim_to fun t st3 _ h3 => Sim.bind sim_add fun k st4 _ h4 => sim_applyL hm n p k st4 (by omega)
    have step : ∀ p, q < p + 1 + st.pos → Sim q lo e (applyL x E (n + 1) left) (applyL x' E' (p + 1) left) st := fun p hp =>
      Sim.ite (c := fun st => atomBegins x st) (c' := fun st => atomBegins x' st) (begins_ltC hC) (begins_atC hC)
        (fun hc => Sim.bind (sim_atom hC he hm _) fun right st1 h1 _ => tl p right st1 (by have := eats_ok (eats_atom hC he hm hc) h1; omega))
        (fun _ => ⟨Nat.le_refl _, fun _ => rfl⟩)
        (fun hc hq => eats_bind (eats_atom hC he hm hc) fun right st1 => tl (q + 1) right st1 (by omega))
    cases n' with
    | zero => exact Sim.far (by omega) (step 0 (by omega))
    | succ p => exact step p (by omega)
theorem sim_apply {E E' : M Nat} (hm : ∀ st, Sim q lo e E E' st) (st : PSt) : Sim q lo e (apply x E) (apply x' E') st := Sim.then (sim_atom hC he hm _) fun left st1 => sim_applyL hC he hm _ _ _ _ (by rw [hC.len]; omega)
theorem sim_sum {E E' : M Nat} (hm : ∀ st, Sim q lo e E E' st) (st : PSt) : Sim q lo e (sum x E) (sum x' E') st := sim_chain hC he (sim_chain hC he (sim_apply hC he hm) _) _ _
theorem sim_compare {E E' : M Nat} (hm : ∀ st, Sim q lo e E E' st) (st : PSt) : Sim q lo e (compare x E) (compare x' E') st :=
  Sim.then (sim_sum hC he hm _) fun left st1 => Sim.ite (c := fun st => isW x ⟨#[61]⟩ st || isW x ⟨#[60]⟩ st) (c' := fun st => isW x' ⟨#[61]⟩ st || isW x' ⟨#[60]⟩ st)
    (fun h => by rw [isW_lt' hC h, isW_lt' hC h]) (fun h => by rw [isW_at hC h, isW_at hC h]; rfl)
    (fun _ => next_word hC (k := fun t w => M.bind (sum x E) fun right => operate w left right) (k' := fun t w => M.bind (sum x' E') fun right => operate w left right) fun _ _ _ => Sim.then (sim_sum hC he hm _) fun _ _ => sim_operate)
    (fun _ => ⟨Nat.le_refl _, fun _ => rfl⟩)
    (fun _ _ => eats_bind (e := e) (k' := fun t => M.bind (sum x' E') fun right => operate (wordOf x.s t) left right) eats_next fun _ _ => Sim.then (sim_sum hC he hm _) fun _ _ => sim_operate)
end
end Go.Proofs.Ytkiijfgoaeiphaa

/- Plain: the parser on the tokens ahead of a fault: the greater functions. -/
set_option linter.unusedVariables false
set_option linter.unusedSimpArgs false
set_option linter.unusedSectionVars false
namespace Go.Proofs.Ytkiijfgoaeiphaa

def funRest (x : Txt) (E : M Nat) (t0 : Tok) : M Nat := M.bind (bind x) fun b => M.bind (binds x) fun bs => M.bind (take x ⟨#[45, 62]⟩) fun _ => M.bind E fun body => wrap ((b : Int) :: bs) (some t0.lo) body
def letRest (x : Txt) (E : M Nat) (t0 : Tok) : M Nat := M.bind (recM x) fun r => M.bind (bind x) fun name => M.bind (binds x) fun bs =>
  M.bind (take x ⟨#[61]⟩) fun _ => M.bind E fun b0 => M.bind (wrap bs none b0) fun bound => M.bind (take x ⟨#[105, 110]⟩) fun _ => M.bind E fun body =>
  M.bind (toOf body) fun t => add ⟨13, t0.lo, t, r, ⟨#[]⟩, [(name : Int), (bound : Int), (body : Int)]⟩
def ifRest (x : Txt) (E : M Nat) (t0 : Tok) : M Nat := M.bind E fun a => M.bind (take x ⟨#[116, 104, 101, 110]⟩) fun _ => M.bind E fun b =>
  M.bind (take x ⟨#[101, 108, 115, 101]⟩) fun _ => M.bind E fun c => M.bind (toOf c) fun t => add ⟨14, t0.lo, t, 0, ⟨#[]⟩, [(a : Int), (b : Int), (c : Int)]⟩
def matchRest (x : Txt) (E Pt : M Nat) (t0 : Tok) : M Nat := M.bind E fun a => M.bind (take x ⟨#[119, 105, 116, 104]⟩) fun _ => M.bind (skip x ⟨#[124]⟩) fun _ =>
  M.bind (armsL x E Pt (x.toks.length + 1) [(a : Int)]) fun kids => M.bind (toOf (lastOf kids)) fun t => add ⟨15, t0.lo, t, 0, ⟨#[]⟩, kids⟩
def typeRest (x : Txt) (t0 : Tok) : M Unit := M.bind (ticksL x (x.toks.length + 1) []) fun ticks => M.bind (takeKind x 1) fun tn =>
  M.bind (take x ⟨#[61]⟩) fun _ => M.bind (skip x ⟨#[124]⟩) fun _ => M.bind (casesL x (x.toks.length + 1) ticks) fun kids => M.bind (toOf (lastOf kids)) fun t =>
  M.bind (add ⟨2, t0.lo, t, ticks.length, wordOf x.s tn, kids⟩) fun _ => M.ret ()
section
variable {x x' : Txt} {q lo e : Nat} (hC : Cut x x' q lo) (he : x'.s.size = e)
include hC he
theorem sim_funRest {E E' : M Nat} (hm : ∀ st, Sim q lo e E E' st) (t0 : Tok) (st : PSt) : Sim q lo e (funRest x E t0) (funRest x' E' t0) st :=
  Sim.then (sim_bind hC he) fun _ _ => Sim.then (sim_binds hC he) fun _ _ => Sim.then (sim_take hC he) fun _ _ => Sim.then (hm _) fun _ _ => sim_wrap _ _ _ _
theorem sim_letRest {E E' : M Nat} (hm : ∀ st, Sim q lo e E E' st) (t0 : Tok) (st : PSt) : Sim q lo e (letRest x E t0) (letRest x' E' t0) st :=
  Sim.then (sim_recM hC) fun _ _ => Sim.then (sim_bind hC he) fun _ _ => Sim.then (sim_binds hC he) fun _ _ => Sim.then (sim_take hC he) fun _ _ => Sim.then (hm _) fun _ _ => Sim.then (sim_wrap _ _ _ _) fun _ _ =>
    Sim.then (sim_take hC he) fun _ _ => Sim.then (hm _) fun _ _ => Sim.then sim_to fun _ _ => sim_add
theorem sim_ifRest {E E' : M Nat} (hm : ∀ st, Sim q lo e E E' st) (t0 : Tok) (st : PSt) : Sim q lo e (ifRest x E t0) (ifRest x' E' t0) st :=
  Sim.then (hm _) fun _ _ => Sim.then (sim_take hC he) fun _ _ => Sim.then (hm _) fun _ _ => Sim.then (sim_take hC he) fun _ _ => Sim.then (hm _) fun _ _ => Sim.then sim_to fun _ _ => sim_add
theorem closed_ltC {st : PSt} (h : st.pos < q) : closedBegins x' st = closedBegins x st := by unfold closedBegins; rw [isW_lt' hC h, begins_ltC hC h]
theorem closed_atC {st : PSt} (h : st.pos = q) : closedBegins x' st = false := by unfold closedBegins; rw [isW_at hC h, begins_atC hC h]; rfl
/-- What a closed pattern is, where one begins. -/
def closedIn (x : Txt) (Pt : M Nat) : M Nat := fun st =>
  if (number x st).2 then M.bind (next x) (fun t => leaf 19 (number x st).1 ⟨#[]⟩ t) st
    else if isK x 1 st then bind x st
    else if isK x 2 st then M.bind (next x) (fun t => leaf 23 0 (wordOf x.s t) t) st
    else if isW x ⟨#[95]⟩ st then M.bind (next x) (fun t => leaf 18 0 ⟨#[]⟩ t) st
    else if isW x ⟨#[116, 114, 117, 101]⟩ st then M.bind (next x) (fun t => leaf 20 1 ⟨#[]⟩ t) st
    else if isW x ⟨#[102, 97, 108, 115, 101]⟩ st then M.bind (next x) (fun t => leaf 20 0 ⟨#[]⟩ t) st
    else brackets x 21 22 Pt st
theorem eats_closedIn {E E' : M Nat} (hm : ∀ st, Sim q lo e E E' st) {st : PSt} (h : closedBegins x st = true) : Eats q lo (closedIn x E) st :=
  Eats.ite (c := fun st => (number x st).2) (m1 := fun st => M.bind (next x) (fun t => leaf 19 (number x st).1 ⟨#[]⟩ t) st) (fun _ => eats_leaf e) fun h1 => Eats.ite (c := fun st => isK x 1 st) (fun h => eats_bindK e h) fun h2 => Eats.ite (c := fun st => isK x 2 st) (fun _ => eats_leaf e) fun h3 =>
    Eats.ite (c := fun st => isW x ⟨#[95]⟩ st) (fun _ => eats_leaf e) fun h6 => Eats.ite (c := fun st => isW x ⟨#[116, 114, 117, 101]⟩ st) (fun _ => eats_leaf e) fun h4 => Eats.ite (c := fun st => isW x ⟨#[102, 97, 108, 115, 101]⟩ st) (fun _ => eats_leaf e) fun h5 => eats_brackets hC he hm (by
      unfold closedBegins atomBegins at h
      rw [h1, h2, h3, h4, h5, h6] at h
      simpa using h)
theorem sim_closedIn {E E' : M Nat} (hm : ∀ st, Sim q lo e E E' st) (st : PSt) : Sim q lo e (closedIn x E) (closedIn x' E') st :=
  Sim.ite (c := fun st => (number x st).2) (c' := fun st => (number x' st).2) (m1 := fun st => M.bind (next x) (fun t => leaf 19 (number x st).1 ⟨#[]⟩ t) st) (m1' := fun st => M.bind (next x') (fun t => leaf 19 (number x' st).1 ⟨#[]⟩ t) st)
    (fun h => by rw [number_lt' hC h]) (fun h => by rw [number_at hC h])
    (fun _ => sim_leaf hC he (f := fun st => (number x st).1) (f' := fun st => (number x' st).1) (nm := fun _ => ⟨#[]⟩) (nm' := fun _ => ⟨#[]⟩) (fun st h => by rw [number_lt' hC h]) fun _ _ _ => rfl)
    (fun _ => Sim.ite (c := fun st => isK x 1 st) (c' := fun st => isK x' 1 st) (isK_lt' hC) (isK_at hC) (fun _ => sim_bind hC he)
      (fun _ => Sim.ite (c := fun st => isK x 2 st) (c' := fun st => isK x' 2 st) (isK_lt' hC) (isK_at hC) (fun _ => next_word hC (k := fun t w => leaf 23 0 w t) (k' := fun t w => leaf 23 0 w t) fun _ _ _ => sim_add)
        (fun _ => Sim.ite (c := fun st => isW x ⟨#[95]⟩ st) (c' := fun st => isW x' ⟨#[95]⟩ st) (isW_lt' hC) (isW_at hC) (fun _ => Sim.then (sim_next hC) fun _ _ => sim_add)
          (fun _ => Sim.ite (c := fun st => isW x ⟨#[116, 114, 117, 101]⟩ st) (c' := fun st => isW x' ⟨#[116, 114, 117, 101]⟩ st) (isW_lt' hC) (isW_at hC) (fun _ => Sim.then (sim_next hC) fun _ _ => sim_add)
            (fun _ => Sim.ite (c := fun st => isW x ⟨#[102, 97, 108, 115, 101]⟩ st) (c' := fun st => isW x' ⟨#[102, 97, 108, 115, 101]⟩ st) (isW_lt' hC) (isW_at hC) (fun _ => Sim.then (sim_next hC) fun _ _ => sim_add)
              (fun _ => sim_brackets hC he hm _) (fun _ _ => eats_leaf e)) (fun _ _ => eats_leaf e)) (fun _ _ => eats_leaf e)) (fun _ _ => eats_leaf e)) (fun h _ => eats_bindK e h)) (fun _ _ => eats_leaf e)
theorem sim_closed {E E' : M Nat} (hm : ∀ st, Sim q lo e E E' st) (st : PSt) : Sim q lo e (closed x E) (closed x' E') st :=
  Sim.ite (c := fun st => closedBegins x st) (c' := fun st => closedBegins x' st) (m1 := closedIn x E) (m1' := closedIn x' E') (closed_ltC hC he) (closed_atC hC he) (fun _ => sim_closedIn hC he hm _) (fun _ => sim_fail hC he) (fun h _ => eats_closedIn hC he hm h)
theorem eats_closed {E E' : M Nat} (hm : ∀ st, Sim q lo e E E' st) {st : PSt} (h : closedBegins x st = true) : Eats q lo (closed x E) st :=
  Eats.ite (c := fun st => closedBegins x st) (m1 := closedIn x E) (fun _ => eats_closedIn hC he hm h) (fun h1 => absurd (h.symm.trans h1) (by decide))
/-- A case's name, and its part. -/
def ctorRest (x : Txt) (P : M Nat) (t : Tok) (w : ByteArray) : M Nat := fun st1 =>
  if closedBegins x st1 then M.bind (closed x P) (fun part => M.bind (toOf part) fun e => add ⟨23, t.lo, e, 0, w, [(part : Int)]⟩) st1
  else add ⟨23, t.lo, t.hi, 0, w, []⟩ st1
theorem sim_ctorRest {P P' : M Nat} (hm : ∀ st, Sim q lo e P P' st) (t : Tok) (w : ByteArray) (st : PSt) : Sim q lo e (ctorRest x P t w) (ctorRest x' P' t w) st :=
  Sim.ite (c := fun st => closedBegins x st) (c' := fun st => closedBegins x' st) (closed_ltC hC he) (closed_atC hC he)
    (fun _ => Sim.then (sim_closed hC he hm _) fun _ _ => Sim.then sim_to fun _ _ => sim_add) (fun _ => sim_add)
    (fun h _ => eats_bind (e := e) (k' := fun part => M.bind (toOf part) fun e => add ⟨23, t.lo, e, 0, w, [(part : Int)]⟩) (eats_closed hC he hm h) fun _ _ => Sim.then sim_to fun _ _ => sim_add)
theorem sim_patK : ∀ (k : Nat) (st : PSt), Sim q lo e (patK x k) (patK x' k) st
  | 0, _ => sim_fail hC he
  | k + 1, st => Sim.ite (c := fun st => isK x 2 st) (c' := fun st => isK x' 2 st) (m1 := M.bind (next x) fun t => ctorRest x (patK x k) t (wordOf x.s t)) (m1' := M.bind (next x') fun t => ctorRest x' (patK x' k) t (wordOf x'.s t)) (isK_lt' hC) (isK_at hC)
    (fun _ => next_word hC (k := fun t w => ctorRest x (patK x k) t w) (k' := fun t w => ctorRest x' (patK x' k) t w) fun t w st1 => sim_ctorRest hC he (sim_patK k) t w st1)
    (fun _ => sim_closed hC he (sim_patK k) _)
    (fun _ _ => eats_bind eats_next fun t st1 => sim_ctorRest hC he (sim_patK k) t (wordOf x.s t) st1)
theorem sim_arm {E E' P P' : M Nat} (hm : ∀ st, Sim q lo e E E' st) (hp : ∀ st, Sim q lo e P P' st) (st : PSt) : Sim q lo e (arm x E P) (arm x' E' P') st :=
  Sim.then (hp _) fun _ _ => Sim.then (sim_take hC he) fun _ _ => Sim.then (hm _) fun _ _ => Sim.then sim_from fun _ _ => Sim.then sim_to fun _ _ => sim_add
theorem sim_armsL {E E' P P' : M Nat} (hm : ∀ st, Sim q lo e E E' st) (hp : ∀ st, Sim q lo e P P' st) : ∀ (n n' : Nat) (l : List Int) (st : PSt), q < n' + st.pos → Sim q lo e (armsL x E P n l) (armsL x' E' P' n' l) st
  | 0, _, _, _, _ => Sim.stuck
  | n + 1, n', l, st, hn => by
    have step : ∀ p, q < p + 1 + st.pos → Sim q lo e (armsL x E P (n + 1) l) (armsL x' E' P' (p + 1) l) st := fun p hq =>
      Sim.bind (sim_arm hC he hm hp _) fun k st1 _ h1 => Sim.bind (sim_skip hC) fun b st2 h2 _ => by
        cases b with
        | true => exact sim_armsL hm hp n p _ st2 (by have := skip_true h2; omega)
        | false => exact Sim.ret
    cases n' with
    | zero => exact Sim.far (by omega) (step 0 (by omega))
    | succ p => exact step p (by omega)
theorem sim_matchRest {E E' P P' : M Nat} (hm : ∀ st, Sim q lo e E E' st) (hp : ∀ st, Sim q lo e P P' st) (t0 : Tok) (st : PSt) : Sim q lo e (matchRest x E P t0) (matchRest x' E' P' t0) st :=
  Sim.then (hm _) fun _ _ => Sim.then (sim_take hC he) fun _ _ => Sim.then (sim_skip hC) fun _ _ => Sim.then (sim_armsL hC he hm hp _ _ _ _ (by rw [hC.len]; omega)) fun _ _ => Sim.then sim_to fun _ _ => sim_add
theorem sim_exprK : ∀ (k : Nat) (st : PSt), Sim q lo e (exprK x k) (exprK x' k) st
  | 0, _ => sim_fail hC he
  | k + 1, st =>
    Sim.ite (c := fun st => isW x ⟨#[102, 117, 110]⟩ st) (c' := fun st => isW x' ⟨#[102, 117, 110]⟩ st) (isW_lt' hC) (isW_at hC)
      (fun _ => Sim.then (sim_take hC he) fun t0 st1 => sim_funRest hC he (sim_exprK k) t0 st1)
      (fun _ => Sim.ite (c := fun st => isW x ⟨#[108, 101, 116]⟩ st) (c' := fun st => isW x' ⟨#[108, 101, 116]⟩ st) (isW_lt' hC) (isW_at hC)
        (fun _ => Sim.then (sim_take hC he) fun t0 st1 => sim_letRest hC he (sim_exprK k) t0 st1)
        (fun _ => Sim.ite (c := fun st => isW x ⟨#[105, 102]⟩ st) (c' := fun st => isW x' ⟨#[105, 102]⟩ st) (isW_lt' hC) (isW_at hC)
          (fun _ => Sim.then (sim_take hC he) fun t0 st1 => sim_ifRest hC he (sim_exprK k) t0 st1)
          (fun _ => Sim.ite (c := fun st => isW x ⟨#[109, 97, 116, 99, 104]⟩ st) (c' := fun st => isW x' ⟨#[109, 97, 116, 99, 104]⟩ st) (isW_lt' hC) (isW_at hC)
            (fun _ => Sim.then (sim_take hC he) fun t0 st1 => sim_matchRest hC he (sim_exprK k) (sim_patK hC he k) t0 st1)
            (fun _ => sim_compare hC he (sim_exprK k) _)
            (fun h _ => eats_bind (eats_take h) fun t0 st1 => sim_matchRest hC he (sim_exprK k) (sim_patK hC he k) t0 st1))
          (fun h _ => eats_bind (eats_take h) fun t0 st1 => sim_ifRest hC he (sim_exprK k) t0 st1))
        (fun h _ => eats_bind (eats_take h) fun t0 st1 => sim_letRest hC he (sim_exprK k) t0 st1))
      (fun h _ => eats_bind (eats_take h) fun t0 st1 => sim_funRest hC he (sim_exprK k) t0 st1)
end
end Go.Proofs.Ytkiijfgoaeiphaa

/- Plain: the parser on the tokens ahead of a fault: types, declarations, the whole. -/
set_option linter.unusedVariables false
set_option linter.unusedSimpArgs false
set_option linter.unusedSectionVars false
namespace Go.Proofs.Ytkiijfgoaeiphaa

def tickRest (t : Tok) (w : ByteArray) : M Nat := if 0 < w.size then leaf 24 0 (w.extract 1 w.size) t else fun _ => .stuck
def parenRest (x : Txt) (T : M Nat) (t0 : Tok) : M Nat := M.bind T fun k0 => M.bind (rowL x T (x.toks.length + 1) [(k0 : Int)]) fun kids => M.bind (take x ⟨#[41]⟩) fun _ =>
    if kids.length = 1 then M.ret k0 else M.bind (takeKind x 1) fun t => add ⟨25, t0.lo, t.hi, 0, wordOf x.s t, kids⟩
section
variable {x x' : Txt} {q lo e : Nat} (hC : Cut x x' q lo) (he : x'.s.size = e)
include hC he
omit hC he in
theorem sim_tickRest (t : Tok) (w : ByteArray) (st : PSt) : Sim q lo e (tickRest t w) (tickRest t w) st := Sim.cond sim_add Sim.stuck
theorem sim_tick (st : PSt) : Sim q lo e (tick x) (tick x') st := kind_word hC he (k := tickRest) (k' := tickRest) fun t w st1 => sim_tickRest t w st1
omit hC he in
theorem eats_tick (e : Nat) {st : PSt} (h : isK x 4 st = true) : Eats q lo (tick x) st := eats_bind (e := e) (k := fun t => tickRest t (wordOf x.s t)) (k' := fun t => tickRest t (wordOf x.s t)) (eats_takeKind h) fun t st1 => sim_tickRest t _ st1
theorem sim_parenRest {T T' : M Nat} (hm : ∀ st, Sim q lo e T T' st) (t0 : Tok) (st : PSt) : Sim q lo e (parenRest x T t0) (parenRest x' T' t0) st :=
  Sim.then (hm _) fun k0 _ => Sim.then (sim_rowL hC he hm _ _ _ _ (by rw [hC.len]; omega)) fun kids _ => Sim.then (sim_take hC he) fun _ _ => Sim.cond Sim.ret (kind_word hC he (k := fun t w => add ⟨25, t0.lo, t.hi, 0, w, kids⟩) (k' := fun t w => add ⟨25, t0.lo, t.hi, 0, w, kids⟩) fun _ _ _ => sim_add)
theorem sim_namedFirst {T T' : M Nat} (hm : ∀ st, Sim q lo e T T' st) (st : PSt) : Sim q lo e (namedFirst x T) (namedFirst x' T') st :=
  Sim.ite (c := fun st => isK x 4 st) (c' := fun st => isK x' 4 st) (isK_lt' hC) (isK_at hC) (fun _ => sim_tick hC he _)
    (fun _ => Sim.ite (c := fun st => isK x 1 st) (c' := fun st => isK x' 1 st) (isK_lt' hC) (isK_at hC) (fun _ => next_word hC (k := fun t w => leaf 25 0 w t) (k' := fun t w => leaf 25 0 w t) fun _ _ _ => sim_add)
      (fun _ => Sim.then (sim_take hC he) fun t0 st1 => sim_parenRest hC he hm t0 st1) (fun _ _ => eats_leaf e)) (fun h _ => eats_tick e h)
theorem sim_namedL : ∀ (n n' part : Nat) (st : PSt), q < n' + st.pos → Sim q lo e (namedL x n part) (namedL x' n' part) st
  | 0, _, _, _, _ => Sim.stuck
  | n + 1, n', part, st, hn => by
    have tl : ∀ p (t : Tok) (w : ByteArray) st1, q < p + st1.pos → Sim q lo e (M.bind (fromOf part) fun f => M.bind (add ⟨25, f, t.hi, 0, w, [(part : Int)]⟩) fun k => namedL x n k) (M.bind (fromOf part) fun f => M.bind (add ⟨25, f, t.hi, 0, w, [(part : Int)]⟩) fun k => namedL x' p k) st1 := fun p t w st1 h1 =>
      Sim.bind sim_from fun f st2 _ h2 => Sim.bind sim_add fun k st3 _ h3 => sim_namedL n p k st3 (by omega)
    have step : ∀ p, q < p + 1 + st.pos → Sim q lo e (namedL x (n + 1) part) (namedL x' (p + 1) part) st := fun p hp =>
      Sim.ite (c := fun st => isK x 1 st) (c' := fun st => isK x' 1 st) (isK_lt' hC) (isK_at hC)
        (fun hc => Sim.swap (m'' := M.bind (next x') fun t => M.bind (fromOf part) fun f => M.bind (add ⟨25, f, t.hi, 0, wordOf x.s t, [(part : Int)]⟩) fun k => namedL x' p k)
          (Sim.bind (sim_next hC) fun t st1 h1 _ => tl p t _ st1 (by have := eats_ok (q := q) (lo := lo) eats_next h1; omega))
          (fun hp => by
            simp only [M.bind, next]
            rw [hC.tok _ hp]
            cases ht : x.toks[st.pos]? with
            | none => rfl
            | some t => dsimp only; rw [hC.word _ _ hp ht])
          (fun _ => eats_bind eats_next fun t st1 => tl (q + 1) t _ st1 (by omega)))
        (fun _ => ⟨Nat.le_refl _, fun _ => rfl⟩)
        (fun hc hq => eats_bind eats_next fun t st1 => tl (q + 1) t _ st1 (by omega))
    cases n' with
    | zero => exact Sim.far (by omega) (step 0 (by omega))
    | succ p => exact step p (by omega)
theorem sim_named {T T' : M Nat} (hm : ∀ st, Sim q lo e T T' st) (st : PSt) : Sim q lo e (named x T) (named x' T') st := Sim.then (sim_namedFirst hC he hm _) fun _ _ => sim_namedL hC he _ _ _ _ (by rw [hC.len]; omega)
theorem sim_pairL {T T' : M Nat} (hm : ∀ st, Sim q lo e T T' st) : ∀ (n n' : Nat) (l : List Int) (st : PSt), q < n' + st.pos → Sim q lo e (pairL x T n l) (pairL x' T' n' l) st
  | 0, _, _, _, _ => Sim.stuck
  | n + 1, n', l, st, hn => by
    have step : ∀ p, q < p + 1 + st.pos → Sim q lo e (pairL x T (n + 1) l) (pairL x' T' (p + 1) l) st := fun p hp =>
      Sim.bind (sim_skip hC) fun b st1 h1 _ => by
        cases b with
        | true => exact Sim.bind (sim_named hC he hm _) fun k st2 _ h2 => sim_pairL hm n p _ st2 (by have := skip_true h1; omega)
        | false => exact Sim.ret
    cases n' with
    | zero => exact Sim.far (by omega) (step 0 (by omega))
    | succ p => exact step p (by omega)
theorem sim_pair {T T' : M Nat} (hm : ∀ st, Sim q lo e T T' st) (st : PSt) : Sim q lo e (pair x T) (pair x' T') st :=
  Sim.then (sim_named hC he hm _) fun _ _ => Sim.then (sim_pairL hC he hm _ _ _ _ (by rw [hC.len]; omega)) fun _ _ => Sim.cond Sim.ret (Sim.then sim_from fun _ _ => Sim.then sim_to fun _ _ => sim_add)
theorem sim_typK : ∀ (k : Nat) (st : PSt), Sim q lo e (typK x k) (typK x' k) st
  | 0, _ => sim_fail hC he
  | k + 1, st => Sim.then (sim_pair hC he (sim_typK k) _) fun _ _ => Sim.then (sim_skip hC) fun b _ => Sim.cond (Sim.then (sim_typK k _) fun _ _ => Sim.then sim_from fun _ _ => Sim.then sim_to fun _ _ => sim_add) Sim.ret
theorem sim_typeCase (st : PSt) : Sim q lo e (typeCase x) (typeCase x') st :=
  kind_word hC he (k := fun t w => M.bind (skip x ⟨#[111, 102]⟩) fun b => if b then M.bind (typK x 65) fun part => M.bind (toOf part) fun e => add ⟨3, t.lo, e, 0, w, [(part : Int)]⟩ else add ⟨3, t.lo, t.hi, 0, w, []⟩)
    (k' := fun t w => M.bind (skip x' ⟨#[111, 102]⟩) fun b => if b then M.bind (typK x' 65) fun part => M.bind (toOf part) fun e => add ⟨3, t.lo, e, 0, w, [(part : Int)]⟩ else add ⟨3, t.lo, t.hi, 0, w, []⟩)
    fun _ _ _ => Sim.then (sim_skip hC) fun _ _ => Sim.cond (Sim.then (sim_typK hC he 65 _) fun _ _ => Sim.then sim_to fun _ _ => sim_add) sim_add
theorem sim_ticksL : ∀ (n n' : Nat) (l : List Int) (st : PSt), q < n' + st.pos → Sim q lo e (ticksL x n l) (ticksL x' n' l) st
  | 0, _, _, _, _ => Sim.stuck
  | n + 1, n', l, st, hn => by
    have step : ∀ p, q < p + 1 + st.pos → Sim q lo e (ticksL x (n + 1) l) (ticksL x' (p + 1) l) st := fun p hp =>
      Sim.ite (c := fun st => isK x 4 st) (c' := fun st => isK x' 4 st) (isK_lt' hC) (isK_at hC)
        (fun hc => Sim.bind (sim_tick hC he _) fun b st1 hm _ => sim_ticksL n p _ st1 (by have := eats_ok (eats_tick (q := q) (lo := lo) e hc) hm; omega))
        (fun _ => ⟨Nat.le_refl _, fun _ => rfl⟩)
        (fun hc hq => eats_bind (k' := fun (b : Nat) => ticksL x' (q + 1) (l ++ [(b : Int)])) (eats_tick e hc) fun (b : Nat) st1 => sim_ticksL n (q + 1) (l ++ [(b : Int)]) st1 (by omega))
    cases n' with
    | zero => exact Sim.far (by omega) (step 0 (by omega))
    | succ p => exact step p (by omega)
theorem sim_casesL : ∀ (n n' : Nat) (l : List Int) (st : PSt), q < n' + st.pos → Sim q lo e (casesL x n l) (casesL x' n' l) st
  | 0, _, _, _, _ => Sim.stuck
  | n + 1, n', l, st, hn => by
    have step : ∀ p, q < p + 1 + st.pos → Sim q lo e (casesL x (n + 1) l) (casesL x' (p + 1) l) st := fun p hq =>
      Sim.bind (sim_typeCase hC he _) fun k st1 _ h1 => Sim.bind (sim_skip hC) fun b st2 h2 _ => by
        cases b with
        | true => exact sim_casesL n p _ st2 (by have := skip_true h2; omega)
        | false => exact Sim.ret
    cases n' with
    | zero => exact Sim.far (by omega) (step 0 (by omega))
    | succ p => exact step p (by omega)
theorem sim_typeRest (t0 : Tok) (st : PSt) : Sim q lo e (typeRest x t0) (typeRest x' t0) st :=
  Sim.then (sim_ticksL hC he _ _ _ _ (by rw [hC.len]; omega)) fun ticks _ => kind_word hC he
    (k := fun tn w => M.bind (take x ⟨#[61]⟩) fun _ => M.bind (skip x ⟨#[124]⟩) fun _ => M.bind (casesL x (x.toks.length + 1) ticks) fun kids => M.bind (toOf (lastOf kids)) fun t => M.bind (add ⟨2, t0.lo, t, ticks.length, w, kids⟩) fun _ => M.ret ())
    (k' := fun tn w => M.bind (take x' ⟨#[61]⟩) fun _ => M.bind (skip x' ⟨#[124]⟩) fun _ => M.bind (casesL x' (x'.toks.length + 1) ticks) fun kids => M.bind (toOf (lastOf kids)) fun t => M.bind (add ⟨2, t0.lo, t, ticks.length, w, kids⟩) fun _ => M.ret ())
    fun _ _ _ => Sim.then (sim_take hC he) fun _ _ => Sim.then (sim_skip hC) fun _ _ => Sim.then (sim_casesL hC he _ _ _ _ (by rw [hC.len]; omega)) fun _ _ => Sim.then sim_to fun _ _ => Sim.then sim_add fun _ _ => Sim.ret
def declRest (x : Txt) (t0 : Tok) : M Unit := M.bind (recM x) fun r => M.bind (bind x) fun name => M.bind (binds x) fun bs => M.bind (take x ⟨#[61]⟩) fun _ =>
    M.bind (exprK x 65) fun b0 => M.bind (wrap bs none b0) fun body => M.bind (toOf body) fun t =>
    M.bind (add ⟨1, t0.lo, t, r, ⟨#[]⟩, [(name : Int), (body : Int)]⟩) fun _ => M.ret ()
theorem sim_declRest (t0 : Tok) (st : PSt) : Sim q lo e (declRest x t0) (declRest x' t0) st :=
  Sim.then (sim_recM hC) fun _ _ => Sim.then (sim_bind hC he) fun _ _ => Sim.then (sim_binds hC he) fun _ _ => Sim.then (sim_take hC he) fun _ _ => Sim.then (sim_exprK hC he 65 _) fun _ _ => Sim.then (sim_wrap _ _ _ _) fun _ _ =>
    Sim.then sim_to fun _ _ => Sim.then sim_add fun _ _ => Sim.ret
theorem sim_decl (st : PSt) : Sim q lo e (decl x) (decl x') st :=
  Sim.ite (c := fun st => isW x ⟨#[116, 121, 112, 101]⟩ st) (c' := fun st => isW x' ⟨#[116, 121, 112, 101]⟩ st) (isW_lt' hC) (isW_at hC)
    (fun _ => Sim.then (sim_take hC he) fun t0 st1 => sim_typeRest hC he t0 st1)
    (fun _ => Sim.then (sim_take hC he) fun t0 st1 => sim_declRest hC he t0 st1)
    (fun h _ => eats_bind (eats_take h) fun t0 st1 => sim_typeRest hC he t0 st1)
/-- A fault that is told at token q: what is ahead of it is whole, or is told at its end. -/
theorem whole_cut {f : Flt} (hq : q ≤ x.toks.length) (h : whole x ⟨0, []⟩ = .bad f) (h1 : f.code = 1) (h2 : f.lo = lo) :
    (∃ st, whole x' ⟨0, []⟩ = .ok () st) ∨ whole x' ⟨0, []⟩ = .bad ⟨1, e, e⟩ := by
  have hs := sim_decl hC he ⟨0, []⟩
  unfold Sim at hs
  unfold whole at h ⊢
  simp only [M.bind] at h ⊢
  cases hd : decl x ⟨0, []⟩ with
  | bad g =>
    rw [hd] at h hs
    injection h with h
    subst h
    right
    rw [(hs h1 h2).2]
  | stuck => rw [hd] at h; cases h
  | ok u st1 =>
    rw [hd] at h hs
    dsimp only at h
    split at h
    · have hf := sim_fail (c := 1) (α := Unit) (st := st1) hC he
      unfold Sim at hf
      rw [h] at hf
      have hp := (hf h1 h2).1
      left
      rw [hs.2 hp]
      dsimp only
      have hlo : st1.pos = q := by
        unfold fail at h
        cases ht : x.toks[st1.pos]? with
        | none => rw [ht] at h; injection h with h; subst h; exact absurd h2 hC.last
        | some t => rw [ht] at h; injection h with h; subst h; exact hC.at_ _ _ ht h2
      rw [if_neg (by rw [hC.len]; omega)]
      exact ⟨st1, rfl⟩
    · cases h
end
end Go.Proofs.Ytkiijfgoaeiphaa

/- Plain: up to the token at which a fault is told nothing is wrong. -/
set_option linter.unusedVariables false
set_option linter.unusedSimpArgs false
namespace Go.Proofs.Ytkiijfgoaeiphaa

def endStep (lo : Nat) (e : Nat) (t : Tok) : Nat := if t.lo < lo then t.hi else e
/-- Where the last token ends that begins ahead of 'lo'. -/
def endOf (lo : Nat) (ts : List Tok) : Nat := ts.foldl (endStep lo) 0
theorem end_skip {lo : Nat} : ∀ (ts : List Tok) (e : Nat), (∀ t ∈ ts, ¬ t.lo < lo) → ts.foldl (endStep lo) e = e
  | [], _, _ => rfl
  | t :: ts, e, h => by
    rw [List.foldl_cons, endStep, if_neg (h t (by simp))]
    exact end_skip ts e fun u hu => h u (by simp [hu])
theorem Rises.get : ∀ {k : Nat} {ts : List Tok} {e : Nat}, Rises k ts e → ∀ (i j : Nat) (t u : Tok), i < j → ts[i]? = some t → ts[j]? = some u → t.hi ≤ u.lo
  | _, [], _, _, i, j, t, u, _, ht, _ => by simp at ht
  | _, x :: xs, _, h, 0, j, t, u, hij, ht, hu => by
    have : x = t := by simpa using ht
    subst this
    obtain ⟨j, rfl⟩ : ∃ j', j = j' + 1 := ⟨j - 1, by omega⟩
    exact (h.2.2.mem u (List.mem_of_getElem? (i := j) (by simpa using hu))).1
  | _, x :: xs, _, h, i + 1, j, t, u, hij, ht, hu => by
    obtain ⟨j, rfl⟩ : ∃ j', j = j' + 1 := ⟨j - 1, by omega⟩
    exact h.2.2.get i j t u (by omega) (by simpa using ht) (by simpa using hu)
theorem end_rest {s : ByteArray} {q : Nat} {u : Tok} (hu : (lex s)[q]? = some u) : endOf u.lo (lex s) = ((lex s).take q).foldl (endStep u.lo) 0 := by
  have hr := lex_rises s
  have hB : ∀ t ∈ (lex s).drop q, ¬ t.lo < u.lo := by
    intro t ht
    obtain ⟨i, hi⟩ := List.mem_iff_getElem?.1 ht
    rw [List.getElem?_drop] at hi
    cases i with
    | zero => rw [Nat.add_zero, hu] at hi; injection hi with hi; subst hi; omega
    | succ i =>
      have h1 := hr.get q (q + (i + 1)) u t (by omega) hu hi
      have h2 := hr.mem u (List.mem_of_getElem? hu)
      omega
  unfold endOf
  conv => lhs; rw [← List.take_append_drop q (lex s)]
  rw [List.foldl_append, end_skip _ _ hB]
theorem end_at0 {s : ByteArray} {u : Tok} (hu : (lex s)[0]? = some u) : endOf u.lo (lex s) = 0 := by
  rw [end_rest hu]; rfl
theorem end_at1 {s : ByteArray} {j : Nat} {u v : Tok} (hu : (lex s)[j + 1]? = some u) (hv : (lex s)[j]? = some v) : endOf u.lo (lex s) = v.hi := by
  have hr := lex_rises s
  have h1 := hr.get j (j + 1) v u (by omega) hv hu
  have h2 := hr.mem v (List.mem_of_getElem? hv)
  rw [end_rest hu, List.take_add_one, hv, List.foldl_append]
  simp only [Option.toList_some, List.foldl_cons, List.foldl_nil]
  rw [endStep, if_pos (by omega)]
theorem lex_cut {s : ByteArray} {q : Nat} {u : Tok} (hu : (lex s)[q]? = some u) : lex (s.extract 0 (endOf u.lo (lex s))) = (lex s).take q := by
  have hlt := (List.getElem?_eq_some_iff.1 hu).1
  have hd : ∀ e, (s.extract 0 e).data.toList = s.data.toList.take e := fun e => by rw [ext_toList]; unfold sfx; simp
  have hz : ∀ e, (s.extract 0 e).size = (s.data.toList.take e).length := fun e => by rw [← hd]; simp
  cases q with
  | zero =>
    rw [end_at0 hu]
    unfold lex
    rw [hd]; simp [lexF_nil]
  | succ j =>
    have hj := List.getElem?_eq_getElem (l := lex s) (i := j) (by omega)
    rw [end_at1 hu hj]
    have := lexF_cut s.size 0 s.data.toList (by simp) j _ hlt hj
    unfold lex at this ⊢
    rw [hd, hz]
    rw [Nat.sub_zero] at this
    rw [← this, ← lexF_fuel]
    rw [List.length_take]; simp; omega
theorem end_le {s : ByteArray} (lo : Nat) : endOf lo (lex s) ≤ s.size := by
  have : ∀ (ts : List Tok) (e : Nat), e ≤ s.size → (∀ t ∈ ts, t.hi ≤ s.size) → ts.foldl (endStep lo) e ≤ s.size := by
    intro ts
    induction ts with
    | nil => intro e he _; exact he
    | cons t ts ih =>
      intro e he ht
      rw [List.foldl_cons]
      refine ih _ ?_ fun u hu => ht u (by simp [hu])
      unfold endStep
      split
      · exact ht t (by simp)
      · exact he
  exact this _ _ (Nat.zero_le _) fun t ht => (lex_in s t ht).2
theorem front_cut {s : ByteArray} {q : Nat} {u : Tok} (hu : (lex s)[q]? = some u) : Cut ⟨s, lex s⟩ ⟨s.extract 0 (endOf u.lo (lex s)), lex (s.extract 0 (endOf u.lo (lex s)))⟩ q u.lo := by
  have hr := lex_rises s
  have hlt := (List.getElem?_eq_some_iff.1 hu).1
  have hum := hr.mem u (List.mem_of_getElem? hu)
  refine ⟨by rw [lex_cut hu, List.length_take]; omega, fun i hi => by rw [lex_cut hu]; exact List.getElem?_take_of_lt hi, fun i t hi ht => ?_, fun i t ht he => ?_, by show s.size ≠ u.lo; omega⟩
  · dsimp only at ht ⊢
    have hte : t.hi ≤ endOf u.lo (lex s) := by
      cases q with
      | zero => omega
      | succ j =>
        have hj := List.getElem?_eq_getElem (l := lex s) (i := j) (by omega)
        rw [end_at1 hu hj]
        by_cases hij : i = j
        · subst hij; rw [hj] at ht; injection ht with ht; rw [ht]; exact Nat.le_refl _
        · have h1 := hr.get i j t _ (by omega) ht hj
          have h2 := hr.mem _ (List.mem_of_getElem? hj)
          omega
    have htm := hr.mem t (List.mem_of_getElem? ht)
    have hel := end_le (s := s) u.lo
    unfold wordOf
    rw [if_pos ⟨by omega, by rw [ByteArray.size_extract]; omega⟩, if_pos ⟨by omega, htm.2.2⟩]
    apply ba_of
    rw [ext_toList, ext_toList]
    unfold sfx
    rw [show (s.extract 0 (endOf u.lo (lex s))).data.toList = s.data.toList.take (endOf u.lo (lex s)) by rw [ext_toList]; unfold sfx; simp, List.drop_take, List.take_take, Nat.min_eq_left (by omega)]
  · dsimp only at ht
    rcases Nat.lt_trichotomy i q with h | h | h
    · have h1 := hr.get i q t u h ht hu
      have h2 := hr.mem t (List.mem_of_getElem? ht)
      omega
    · exact h
    · have h1 := hr.get q i u t h hu ht
      have h2 := hr.mem t (List.mem_of_getElem? ht)
      omega
theorem front_law (s : ByteArray) (hs : s.size ≤ 100000000) (h1 : (one s).2.code = 1) (h2 : (one s).2.lo ≠ s.size) :
    ((one (s.extract 0 (endOf (one s).2.lo (lex s)))).2.code = 0 ∧ 0 < (one (s.extract 0 (endOf (one s).2.lo (lex s)))).1.length) ∨
    (one (s.extract 0 (endOf (one s).2.lo (lex s)))).2 = ⟨1, endOf (one s).2.lo (lex s), endOf (one s).2.lo (lex s)⟩ ∨ (one (s.extract 0 (endOf (one s).2.lo (lex s)))).2.code = 3 := by
  obtain ⟨f, hf, hb⟩ : ∃ f, (one s).2 = f ∧ whole ⟨s, lex s⟩ ⟨0, []⟩ = .bad f := by
    unfold one at h1 ⊢
    cases hw : whole ⟨s, lex s⟩ ⟨0, []⟩ with
    | ok u st => rw [hw] at h1; dsimp only at h1; split at h1 <;> simp at h1
    | stuck => rw [hw] at h1; simp at h1
    | bad f =>
      rw [hw] at h1
      dsimp only at h1 ⊢
      split at h1
      · simp at h1
      · rename_i h0; rw [if_neg h0]; exact ⟨f, rfl, rfl⟩
  rw [hf] at h1 h2 ⊢
  have hq : ∃ (q : Nat) (u : Tok), (lex s)[q]? = some u ∧ u.lo = f.lo := by
    apply Classical.byContradiction
    intro hn
    have hC : Cut ⟨s, lex s⟩ ⟨s, lex s⟩ (lex s).length f.lo := ⟨rfl, fun _ _ => rfl, fun _ _ _ _ => rfl, fun i t ht he => absurd ⟨i, t, ht, he⟩ hn, fun e => h2 e.symm⟩
    rcases whole_cut hC rfl (Nat.le_refl _) hb h1 rfl with ⟨st, h⟩ | h
    · rw [hb] at h; cases h
    · rw [hb] at h; injection h with h; rw [h] at h2; exact h2 rfl
  obtain ⟨q, u, hu, hul⟩ := hq
  rw [← hul]
  have hel := end_le (s := s) u.lo
  have hsz : (s.extract 0 (endOf u.lo (lex s))).size = endOf u.lo (lex s) := by rw [ByteArray.size_extract]; omega
  have hok := whole_ok (s.extract 0 (endOf u.lo (lex s))) (by rw [hsz]; omega)
  have hc := whole_cut (front_cut hu) hsz (by have := (List.getElem?_eq_some_iff.1 hu).1; show q ≤ (lex s).length; omega) hb h1 hul.symm
  generalize endOf u.lo (lex s) = e at *
  unfold one
  rcases hc with ⟨st, h⟩ | h
  · unfold Ok at hok
    rw [h] at hok ⊢
    dsimp only
    split
    · right; right; rfl
    · left; exact ⟨rfl, hok.2⟩
  · rw [h]
    right; left
    rfl
end Go.Proofs.Ytkiijfgoaeiphaa

/- Lists of numbers, of nodes, of declarations that are read, wherever they lie. -/
set_option linter.unusedVariables false
set_option linter.unusedSimpArgs false
namespace Go.Proofs.Ytkiijfgoaeiphaa
open Go.RowKit

def KidsR (W : World) (v : Value) (xs : List Int) : Prop :=
  ∃ ad c, v = .slice ad xs.length c ∧ xs.length ≤ maxLen ∧ (xs ≠ [] → ∃ b o, ad = some ⟨b, o, none⟩ ∧ ∀ j x, xs[j]? = some x → W.cell? ⟨b, o + j, none⟩ = some (.int .i64 x))
def NodesR (W : World) (v : Value) (ns : List Nd) : Prop :=
  ∃ ad c, v = .slice ad ns.length c ∧ ns.length ≤ maxLen ∧ (ns ≠ [] → ∃ b o, ad = some ⟨b, o, none⟩ ∧ ∀ j n, ns[j]? = some n →
    W.cell? ⟨b, o + j * 6, none⟩ = some (.int .i64 n.kind) ∧ W.cell? ⟨b, o + j * 6 + 1, none⟩ = some (.int .i64 n.lo) ∧ W.cell? ⟨b, o + j * 6 + 2, none⟩ = some (.int .i64 n.hi) ∧ W.cell? ⟨b, o + j * 6 + 3, none⟩ = some (.int .i64 n.num) ∧ W.cell? ⟨b, o + j * 6 + 4, none⟩ = some (.string n.name) ∧ ∃ kv, W.cell? ⟨b, o + j * 6 + 5, none⟩ = some kv ∧ KidsR W kv n.kids)
def DeclsR (W : World) (v : Value) (l : List Dc) : Prop :=
  ∃ ad c, v = .slice ad l.length c ∧ l.length ≤ maxLen ∧ (l ≠ [] → ∃ b o, ad = some ⟨b, o, none⟩ ∧ ∀ j d, l[j]? = some d →
    W.cell? ⟨b, o + j * 6, none⟩ = some (.int .i64 d.lo) ∧ W.cell? ⟨b, o + j * 6 + 1, none⟩ = some (.int .i64 d.hi) ∧ (∃ nv, W.cell? ⟨b, o + j * 6 + 2, none⟩ = some nv ∧ NodesR W nv d.nodes) ∧ W.cell? ⟨b, o + j * 6 + 3, none⟩ = some (.int .i64 d.flt.code) ∧ W.cell? ⟨b, o + j * 6 + 4, none⟩ = some (.int .i64 d.flt.lo) ∧ W.cell? ⟨b, o + j * 6 + 5, none⟩ = some (.int .i64 d.flt.hi))

/-- All cells that there are stay. -/
def Stays (W W' : World) : Prop := ∀ a v, W.cell? a = some v → W'.cell? a = some v
theorem below_stays {W W' : World} (h : Below W.heap.size W W') : Stays W W' := fun a v hv => (World.cell?_of_block (h.block _ (World.block_lt_of_cell? W _ hv))).trans hv
theorem KidsR.stay {W W' : World} {v : Value} {xs : List Int} (h : KidsR W v xs) (hs : Stays W W') : KidsR W' v xs := by
  obtain ⟨ad, c, e, h1, h2⟩ := h
  refine ⟨ad, c, e, h1, fun hne => ?_⟩
  obtain ⟨b, o, e1, hc⟩ := h2 hne
  exact ⟨b, o, e1, fun j x hj => hs _ _ (hc j x hj)⟩
theorem NodesR.stay {W W' : World} {v : Value} {ns : List Nd} (h : NodesR W v ns) (hs : Stays W W') : NodesR W' v ns := by
  obtain ⟨ad, c, e, h1, h2⟩ := h
  refine ⟨ad, c, e, h1, fun hne => ?_⟩
  obtain ⟨b, o, e1, hc⟩ := h2 hne
  refine ⟨b, o, e1, fun j n hj => ?_⟩
  obtain ⟨a0, a1, a2, a3, a4, kv, a5, a6⟩ := hc j n hj
  exact ⟨hs _ _ a0, hs _ _ a1, hs _ _ a2, hs _ _ a3, hs _ _ a4, kv, hs _ _ a5, a6.stay hs⟩
theorem DeclsR.stay {W W' : World} {v : Value} {l : List Dc} (h : DeclsR W v l) (hs : Stays W W') : DeclsR W' v l := by
  obtain ⟨ad, c, e, h1, h2⟩ := h
  refine ⟨ad, c, e, h1, fun hne => ?_⟩
  obtain ⟨b, o, e1, hc⟩ := h2 hne
  refine ⟨b, o, e1, fun j n hj => ?_⟩
  obtain ⟨a0, a1, ⟨nv, a2, a6⟩, a3, a4, a5⟩ := hc j n hj
  exact ⟨hs _ _ a0, hs _ _ a1, ⟨nv, hs _ _ a2, a6.stay hs⟩, hs _ _ a3, hs _ _ a4, hs _ _ a5⟩
theorem KidsIn.reads {W : World} {L : Nat → Prop} {v : Value} {xs : List Int} (h : KidsIn W L v xs) : KidsR W v xs := by
  obtain ⟨ad, c, e, h1, h2, h3⟩ := h
  refine ⟨ad, c, e, Nat.le_trans h1 h2, fun hne => ?_⟩
  obtain ⟨b, o, cur, fr, e1, _, hb, hc⟩ := h3 hne
  exact ⟨b, o, e1, fun j x hj => by rw [cell_of_row _ _ _ _ _ _ hb]; exact hc j x hj⟩
theorem own_len {W : World} {base : Nat} {e : TypeId} {size : Nat} {v : Value} {n : Nat} {xs : List Value} (h : W.ownsRow base e size v n xs) : n ≤ maxLen := by
  rcases h.2 with ⟨_, h0⟩ | ⟨g, cap, cur, _, _, _, h1, h2, _⟩
  · omega
  · exact Nat.le_trans h1 h2
theorem nds_reads {W : World} {base : Nat} {L : Nat → Prop} {v : Value} {ns : List Nd} {cs : List Value} (h1 : W.ownsRow base 53 6 v ns.length cs) (h2 : NdsIn W L ns cs) : NodesR W v ns := by
  obtain ⟨a, c, e⟩ := own_shape h1
  refine ⟨a, c, e, own_len h1, fun hne => ?_⟩
  obtain ⟨g, cap, e2, _, _, hc⟩ := own_at h1 (List.length_pos_iff.2 hne)
  rw [e] at e2
  injection e2 with e2
  refine ⟨g, 0, e2, fun j n hj => ?_⟩
  obtain ⟨a0, a1, a2, a3, a4, kv, a5, a6⟩ := nd_cells h2 hj
  simp only [Nat.zero_add]
  exact ⟨hc _ _ a0, hc _ _ a1, hc _ _ a2, hc _ _ a3, hc _ _ a4, kv, hc _ _ a5, a6.reads⟩
theorem Given.reads {w W : World} {v : Value} {ns : List Nd} (h : Given w W v ns) : NodesR W v ns := by
  obtain ⟨cs, h1, h2⟩ := h
  exact nds_reads h1 h2
theorem DeclsAt.reads {w W : World} {v : Value} {l : List (Dc × Value)} (h : DeclsAt w W v l) : DeclsR W v (l.map (·.1)) := by
  obtain ⟨a, c, e⟩ := own_shape h.own
  refine ⟨a, c, by rw [List.length_map]; exact e, by rw [List.length_map]; exact own_len h.own, fun hne => ?_⟩
  obtain ⟨g, cap, e2, _, _, _⟩ := own_at h.own (by cases l with | nil => simp at hne | cons => simp)
  rw [e] at e2
  injection e2 with e2 _ e3
  subst e2 e3 e
  refine ⟨g, 0, rfl, fun j d hj => ?_⟩
  rw [List.getElem?_map] at hj
  cases hp : l[j]? with
  | none => rw [hp] at hj; cases hj
  | some p =>
    rw [hp] at hj
    injection hj with hj
    subst hj
    obtain ⟨a0, a1, a2, a3, a4, a5⟩ := h.decl hp
    simp only [Nat.zero_add]
    exact ⟨a0, a1, ⟨_, a2, (h.given p (List.mem_of_getElem? hp)).reads⟩, a3, a4, a5⟩
end Go.Proofs.Ytkiijfgoaeiphaa

/- ParseFronts: the walk. -/
set_option linter.unusedVariables false
set_option linter.unusedSimpArgs false
namespace Go.Proofs.Ytkiijfgoaeiphaa
open Go.RowKit
attribute [local go_sem ↓] Go.wp_at_zero Go.wp_at_succ

theorem end_take {lo : Nat} {ts : List Tok} {k : Nat} {t : Tok} (h : ts[k]? = some t) : endOf lo (ts.take (k + 1)) = endStep lo (endOf lo (ts.take k)) t := by
  unfold endOf
  rw [List.take_add_one, h, List.foldl_append]; rfl
theorem end_small {s : ByteArray} (lo k : Nat) : endOf lo ((lex s).take k) ≤ s.size := by
  have : ∀ (ts : List Tok) (e : Nat), e ≤ s.size → (∀ t ∈ ts, t.hi ≤ s.size) → ts.foldl (endStep lo) e ≤ s.size := by
    intro ts
    induction ts with
    | nil => intro e he _; exact he
    | cons t ts ih =>
      intro e he ht
      rw [List.foldl_cons]
      refine ih _ ?_ fun u hu => ht u (by simp [hu])
      unfold endStep
      split
      · exact ht t (by simp)
      · exact he
  exact this _ _ (Nat.zero_le _) fun t ht => (lex_in s t (List.mem_of_mem_take ht)).2

set_option maxRecDepth 100000 in
set_option maxHeartbeats 4000000 in
theorem front_walk (s : ByteArray) (hs : s.size ≤ 140737488351232) (w : World) : Calls Try.prog 3 #[.string s] w fun e w' => e = .returned (.bool true) ∧ Below w.heap.size w w' := by
  generalize hPost : (fun (e : Ending) (w' : World) => e = .returned (.bool true) ∧ Below w.heap.size w w') = Post
  have e0 := Sec.mk hPost
  clear hPost
  have hs' : (s.size : Int) ≤ 140737488351232 := by omega
  go_enter Try.func3, Try.ntmps3
  go_wp2_with fail
  refine (alive10_any _).mono ?_
  rintro e W0 ⟨rfl, hB0⟩
  by_cases hbig : 5000 < (s.size : Int)
  · go_wp2_with fail
    rw [← e0.out]; exact ⟨rfl, hB0⟩
  have hs5 : s.size ≤ 5000 := by omega
  go_wp2_with fail
  refine (One_all s (by omega) _).mono ?_
  rintro e W1 ⟨hB1, nv, rfl, hG⟩
  obtain ⟨na, nc, hv⟩ := hG.shape
  subst hv
  have hlaw := front_law s (by omega)
  have hB2 := hB0.trans (hB1.mono hB0.size)
  generalize (one s).1 = ns at *
  generalize (one s).2 = f at *
  obtain ⟨fc, fl, fh⟩ := f
  dsimp only at hlaw
  have hlaw' := Sec.mk hlaw
  clear hlaw hG hB1
  by_cases h1 : fc = 1
  rotate_left
  · have h1' : ((fc : Int) == 1) = false := by simp; omega
    have h1n : ¬ (fc : Int) = 1 := by omega
    go_wp2_with fail
    rw [← e0.out]
    exact ⟨rfl, hB2.alloc hB2.size _⟩
  subst h1
  by_cases h2 : fl = s.size
  · have h2' : (fl : Int) = (s.size : Int) := by omega
    subst h2
    go_wp2_with fail
    rw [← e0.out]
    exact ⟨rfl, hB2.alloc hB2.size _⟩
  have h2n : ¬ (fl : Int) = (s.size : Int) := by omega
  have h2b : ((fl : Int) == (s.size : Int)) = false := by simp; omega
  have hl := Sec.mk (hlaw'.out rfl h2)
  go_wp2_with fail
  refine (lex_any s (by unfold most; omega) _).mono ?_
  rintro e W3 ⟨v3, rfl, hT⟩
  obtain ⟨a3, c3, hv⟩ := hT.shape
  subst hv
  have x1 : W3.cell? ⟨W1.heap.size, 1, none⟩ = some (.int .i64 fl) := (World.cell?_of_block (hT.below.block _ (by simp))).trans (by simp)
  have hB3 := (hB2.alloc hB2.size (.cells #[.int .i64 1, .int .i64 fl, .int .i64 fh] 25)).trans (hT.below.mono (by have := hB2.size; simp; omega))
  have hll := lex_len s
  have hT3 := (hT.reads (by unfold maxLen; omega))
  obtain ⟨_, _, hq, hq2, hT5⟩ := hT3
  injection hq with hq hq' hq''
  subst hq hq''
  have hT6 := Sec.mk hT5
  have x1' := Sec.mk x1
  clear hT5 hq2 hT x1 hB2 hB0 hlaw'
  generalize W1.heap.size = b1 at *
  go_wp2_with fail
  go_loopg [6, 7] (lex s).length (fun n ev iv wr => ∃ k : Nat, iv = .int .i64 k ∧ ev = .int .i64 (endOf fl ((lex s).take k)) ∧ Sec (k + n = (lex s).length) ∧ Below W3.heap.size W3 wr)
  case atStart => exact ⟨0, rfl, rfl, ⟨by omega⟩, Below.refl _ _⟩
  case round =>
    obtain ⟨k, rfl, rfl, hk, hB⟩ := hrel
    have x2 := below_stays hB _ _ x1'.out
    by_cases hlt : k < (lex s).length
    · have hki : (k : Int) < ((lex s).length : Int) := by omega
      have hk0 : (0 : Int) ≤ (k : Int) := by omega
      have hw1 : IntKind.i64.wrap ((k : Int) + 1) = (k : Int) + 1 := IntWalk.i64_in _ (by omega)
      cases gk with
      | zero => have := hk.out; omega
      | succ n =>
        have hne : lex s ≠ [] := by intro e; rw [e] at hlt; simp at hlt
        obtain ⟨tb, to_, rfl, htb, htc⟩ := hT6.out hne
        have hg := List.getElem?_eq_getElem hlt
        have t1 := below_stays hB _ _ (htc k _ hg 1 _ rfl)
        have t2 := below_stays hB _ _ (htc k _ hg 2 _ rfl)
        have het := Sec.mk (end_take (lo := fl) hg)
        clear htc hne hg
        generalize (lex s)[k] = t at *
        obtain ⟨tk, tl, th⟩ := t
        dsimp only at t1 t2
        by_cases hc : tl < fl
        · have hci : (tl : Int) < (fl : Int) := by omega
          have hen : endStep fl (endOf fl ((lex s).take k)) ⟨tk, tl, th⟩ = th := by unfold endStep; rw [if_pos hc]
          have hen' := Sec.mk hen
          clear hen
          go_wp2_with fail
          go_quiet (fail)
          go_wp2_with fail
          go_roundg n
          case measure => omega
          case rel => exact ⟨k + 1, by rw [show ((k + 1 : Nat) : Int) = (k : Int) + 1 from by omega], by rw [het.out, hen'.out], ⟨by have := hk.out; omega⟩, hB.trans ((below_drewN _ _).mono hB.size)⟩
        · have hci : ¬ (tl : Int) < (fl : Int) := by omega
          have hen : endStep fl (endOf fl ((lex s).take k)) ⟨tk, tl, th⟩ = endOf fl ((lex s).take k) := by unfold endStep; rw [if_neg hc]
          have hen' := Sec.mk hen
          clear hen
          go_wp2_with fail
          go_quiet (fail)
          go_wp2_with fail
          go_roundg n
          case measure => omega
          case rel => exact ⟨k + 1, by rw [show ((k + 1 : Nat) : Int) = (k : Int) + 1 from by omega], by rw [het.out, hen'.out], ⟨by have := hk.out; omega⟩, hB.trans ((below_drewN _ _).mono hB.size)⟩
    · have hki : ¬ (k : Int) < ((lex s).length : Int) := by omega
      rw [List.take_of_length_le (by omega)]
      have hel := end_le (s := s) fl
      have hl' := hl.out
      generalize endOf fl (lex s) = en at *
      have hei : (en : Int) ≤ (s.size : Int) := by omega
      have he0 : (0 : Int) ≤ (en : Int) := by omega
      have hl2 := Sec.mk hl'
      clear hl' hl
      go_wp2_with fail
      refine (One_all (s.extract 0 en) (by rw [ByteArray.size_extract]; omega) _).mono ?_
      rintro e W4 ⟨hB4, nv, rfl, hG⟩
      obtain ⟨na4, nc4, hv⟩ := hG.shape
      subst hv
      have hB5 := hB3.trans ((hB.trans (hB4.mono hB.size)).mono hB3.size)
      have hl3 := hl2.out
      clear hG hB4 hl2
      generalize (one (s.extract 0 en)).1 = ns4 at *
      generalize (one (s.extract 0 en)).2 = g at *
      obtain ⟨gc, gl, gh⟩ := g
      dsimp only at hl3
      have fin : Sec (∀ W', Below W4.heap.size W4 W' → Post (.returned (.bool true)) W') := ⟨fun W' hb => by rw [← e0.out]; exact ⟨rfl, hB5.trans (hb.mono hB5.size)⟩⟩
      have hfa : ∀ o, Below W4.heap.size W4 (W4.alloc o) := fun o => (Below.refl _ _).alloc (Nat.le_refl _) _
      have hfa' := Sec.mk hfa
      clear hfa
      rcases hl3 with ⟨rfl, hn⟩ | hn | rfl
      · have hni : (0 : Int) < (ns4.length : Int) := by omega
        go_wp2_with fail
        exact fin.out _ (hfa'.out _)
      · injection hn with q1 q2 q3
        subst q1 q2 q3
        go_wp2_with fail
        exact fin.out _ (hfa'.out _)
      · go_wp2_with fail
        all_goals exact fin.out _ (hfa'.out _)
end Go.Proofs.Ytkiijfgoaeiphaa

/- Proved: parlancelaw10.ParseFronts answers true for every string, and it reads as before. Conditions: none. -/
set_option linter.unusedVariables false
namespace Go.Proofs.Ytkiijfgoaeiphaa.ParseFrontsProof
open Go.ChangeShapes Go.WideShapes Go.ChangeAt Go.RowKit Go.ChangeMaps
theorem own : ownKnob Try.prog.godebug = none := by kernel_rfl

set_option maxRecDepth 100000 in
theorem lifted (os : Os) (started : os.Started) (H : Type) (enc : TypeId × Value → H) :
    ReturnsInHanded {} Try.checked os 3 .any (Rows.parseFrontsSpec.pre6 enc Try.prog Try.f3 Rows.parseFrontsRow.domain false) (Rows.parseFrontsSpec.post enc Try.prog Try.f3 false true false false) := by
  refine returnsInHanded_of_change_sized (C := Try.checked) own started (by kernel_rfl) Try.func3
    (ChangeSpec.witness6 (enc := enc) (C := Try.checked) false ⟨#[], #[.string ⟨#[]⟩], []⟩ 8 (by kernel_rfl) (by kernel_rfl) (by kernel_rfl) (by kernel_rfl)) ?_
  intro W base args ds gs before hval0 hW hcnd hsz _
  have hval : ∀ (j : Nat) t v, Try.f3.params[j]? = some t → args[j]? = some v → Value.okWide Try.prog W .any base t v := hval0
  have hW' := hW
  obtain ⟨p, q, hA0, hV, rfl, hfz, hnd⟩ := hW
  have hA : DataW.TrodAll enc Try.prog W 0 (fun _ => true) true Try.f3.params.toList args.toList ds p := hA0
  rw [Try.params3] at hA hval
  obtain ⟨v0, vs0, d0, ds0, p0, q0, hargs, rfl, rfl, h0, r0⟩ := trodAll_cons hA
  obtain ⟨rfl, rfl, rfl⟩ := trodAll_nil r0
  obtain rfl : args = #[v0] := by cases args; simp_all
  obtain ⟨rfl, rfl⟩ := trodVars_none hV
  obtain ⟨a, rfl, rfl, rfl, z0⟩ := open_string Try.underlying9 (hval 0 9 v0 rfl rfl) h0
  have k0 : a.data.toList.length ≤ reachBytes := sized_string hsz (j := 0) (t := 9) rfl rfl
  have kr : reachBytes = 140737488351232 := by decide
  rw [kr] at k0
  clear hA0 hval0
  simp only [List.append_nil] at hW'
  refine (front_walk a (by simpa using k0) W).mono fun e W' ⟨he, hg⟩ => ?_
  subst he
  refine ⟨_, rfl, post_below (pa := []) (pv := []) hW' (fun _ _ _ => (trodAll_cons_mk (shut_bool Try.underlying4 _) trodAll_mk0)) (fun sp _ => (trodAll_cons_mk (shut_string Try.underlying9 z0) trodAll_mk0)) (fun _ _ => rfl) rfl hg (ok_one (by kernel_rfl) rfl (okWide_bool_mk Try.underlying4 _))⟩

theorem over : Rows.parseFrontsRow.holds Try.pinned (OpenSpec.ofChange Rows.parseFrontsSpec) :=
  OpenClaim.holds_of_wide 3 Try.f3 rfl rfl rfl rfl rfl rfl rfl ⟨rfl, rfl, rfl, rfl, rfl⟩ rfl rfl rfl rfl rfl (by kernel_rfl) Try.func3 (by kernel_rfl)
    (of_decide_eq_true (by kernel_rfl)) (by unfold Func.isWrapper; first | (rw [if_pos (by decide +kernel)]; kernel_rfl) | (rw [if_neg (by decide +kernel)]; exact ⟨rfl, rfl⟩))
    (fun os started H enc _ => lifted os started H enc)

theorem proved : Rows.ParseFrontsSaid := over
#print axioms proved
end Go.Proofs.Ytkiijfgoaeiphaa.ParseFrontsProof
