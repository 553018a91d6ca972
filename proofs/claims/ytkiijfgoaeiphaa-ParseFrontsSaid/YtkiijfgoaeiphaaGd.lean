/- Plain functions: what package lex computes from a text. No program in sight. -/
import Derived.Test.YtkiijfgoaeiphaaGa
import Derived.Test.YtkiijfgoaeiphaaGc
import Derived.WalkMore
import Derived.Deep.LoopGhost
namespace Go.Proofs.Ytkiijfgoaeiphaa

def white (c : Nat) : Bool := c == 32 || c == 9 || c == 10 || c == 13
def small (c : Nat) : Bool := decide (97 ≤ c) && decide (c ≤ 122)
def great (c : Nat) : Bool := decide (65 ≤ c) && decide (c ≤ 90)
def digit (c : Nat) : Bool := decide (48 ≤ c) && decide (c ≤ 57)
def nameByte (ticks : Bool) (c : Nat) : Bool := small c || great c || digit c || c == 95 || (ticks && c == 39)

/-- A text from a place on. -/
abbrev Bs := List UInt8
def sfx (s : ByteArray) (i : Nat) : Bs := s.data.toList.drop i

def opens : Bs → Bool
  | a :: b :: _ => a.toNat == 40 && b.toNat == 42
  | _ => false
def closes : Bs → Bool
  | a :: b :: _ => a.toNat == 42 && b.toNat == 41
  | _ => false
/-- How many bytes a remark takes that begins here, 'n' being open; and whether it ends. -/
def remark : Int → Bs → Nat × Bool
  | _, [] => (0, false)
  | _, [_] => (1, false)
  | n, a :: b :: r =>
    if opens (a :: b :: r) then ((remark (n + 1) r).1 + 2, (remark (n + 1) r).2)
    else if closes (a :: b :: r) then (if n - 1 = 0 then (2, true) else ((remark (n - 1) r).1 + 2, (remark (n - 1) r).2))
    else ((remark n (b :: r)).1 + 1, (remark n (b :: r)).2)
def count (p : Nat → Bool) : Bs → Nat
  | [] => 0
  | c :: r => if p c.toNat then count p r + 1 else 0
def run (ticks : Bool) (l : Bs) : Nat := count (nameByte ticks) l
def keys : List Bs := [[108, 101, 116], [114, 101, 99], [105, 110], [102, 117, 110], [105, 102], [116, 104, 101, 110], [101, 108, 115, 101], [109, 97, 116, 99, 104], [119, 105, 116, 104], [116, 121, 112, 101], [111, 102], [116, 114, 117, 101], [102, 97, 108, 115, 101]]
def wordKind (w : Bs) : Nat := if w == [95] then 6 else if keys.contains w then 5 else 1
def sign : Bs → Nat
  | [] => 0
  | a :: r => if [[45, 62], [58, 58], [59, 59]].contains ((a :: r).take 2) then 2 else if [40, 41, 44, 124, 61, 60, 43, 45, 42].contains a.toNat then 1 else 0
/-- The kind and the length of the token that begins here. -/
def token : Bs → Nat × Nat
  | [] => (0, 0)
  | c :: r =>
    if small c.toNat || c.toNat == 95 then (wordKind ((c :: r).take (run true (c :: r))), run true (c :: r))
    else if great c.toNat then (2, run true (c :: r))
    else if digit c.toNat then (3, count digit r + 1)
    else if c.toNat == 39 then (match r with | [] => (0, 0) | d :: r' => if small d.toNat then (4, 1 + run false (d :: r')) else (0, 0))
    else if 0 < sign (c :: r) then (6, sign (c :: r)) else (0, 0)
/-- How many bytes from here on are nothing. -/
def nothing : Bs → Nat
  | [] => 0
  | c :: r => if white c.toNat || opens (c :: r) || decide (0 < (token (c :: r)).2) then 0 else nothing r + 1
/-- A text's tokens from a place on; 'n': fuel. -/
def lexF : Nat → Nat → Bs → List Tok
  | 0, _, _ => []
  | _, _, [] => []
  | n + 1, at_, c :: r =>
    if white c.toNat then lexF n (at_ + 1) r
    else if opens (c :: r) then
      if (remark 0 (c :: r)).2 then lexF n (at_ + (remark 0 (c :: r)).1) ((c :: r).drop (remark 0 (c :: r)).1)
      else [⟨7, at_, at_ + (remark 0 (c :: r)).1⟩]
    else if (token (c :: r)).2 = 0 then ⟨7, at_, at_ + (nothing r + 1)⟩ :: lexF n (at_ + (nothing r + 1)) ((c :: r).drop (nothing r + 1))
    else ⟨(token (c :: r)).1, at_, at_ + (token (c :: r)).2⟩ :: lexF n (at_ + (token (c :: r)).2) ((c :: r).drop (token (c :: r)).2)
def lex (s : ByteArray) : List Tok := lexF s.size 0 s.data.toList
end Go.Proofs.Ytkiijfgoaeiphaa

/- The lexer's leaves. -/
set_option linter.unusedVariables false
set_option linter.unusedSimpArgs false
namespace Go.Proofs.Ytkiijfgoaeiphaa
open Go.RowKit
attribute [local go_sem ↓] Go.wp_at_zero Go.wp_at_succ

/-- A call that leaves the world as it is. -/
def Stills (f : FuncId) (args : Array Value) (v : Value) : Prop := ∀ w : World, Calls Try.prog f args w fun e w' => e = .returned v ∧ w' = w
theorem Stills.use {f : FuncId} {args : Array Value} {v : Value} (h : Stills f args v) {w : World} {R : Ending → World → Prop} (hr : R (.returned v) w) : Calls Try.prog f args w R := by
  refine (h w).mono ?_
  rintro e w' ⟨rfl, h⟩
  obtain rfl := h.symm
  exact hr

theorem Stills.of {f : FuncId} {args : Array Value} {v : Value} (h : ∀ (w : World) (Post : Ending → World → Prop), Sec (Post (.returned v) w) → Calls Try.prog f args w Post) : Stills f args v := fun w => h w _ ⟨⟨rfl, rfl⟩⟩
theorem fin_of {Post : Ending → World → Prop} {v v' : Value} {w : World} (h : Sec (Post (.returned v) w)) (e : v' = v) : Post (.returned v') w := e ▸ h.out
theorem fin_bool {Post : Ending → World → Prop} {b b' : Bool} {w : World} (h : Sec (Post (.returned (.bool b)) w)) (e : b' = true ↔ b = true) : Post (.returned (.bool b')) w := (Bool.eq_iff_iff.2 e) ▸ h.out

theorem white_any (c : Nat) : Stills 21 #[.int .u8 c] (.bool (white c)) := by
  refine Stills.of fun w Post fin => ?_
  go_enter Try.func21, Try.ntmps21
  go_wp2_with fail
  all_goals (refine fin_bool fin ?_; simp only [white, Bool.or_eq_true, Bool.and_eq_true, beq_iff_eq, decide_eq_true_eq, Bool.true_eq_false, Bool.false_eq_true, eq_self, true_iff, iff_true, false_iff, reduceCtorEq]; omega)
theorem small_any (c : Nat) : Stills 36 #[.int .u8 c] (.bool (small c)) := by
  refine Stills.of fun w Post fin => ?_
  go_enter Try.func36, Try.ntmps36
  go_wp2_with fail
  all_goals (refine fin_bool fin ?_; simp only [small, Bool.or_eq_true, Bool.and_eq_true, beq_iff_eq, decide_eq_true_eq, Bool.true_eq_false, Bool.false_eq_true, eq_self, true_iff, iff_true, false_iff, reduceCtorEq]; omega)
theorem great_any (c : Nat) : Stills 39 #[.int .u8 c] (.bool (great c)) := by
  refine Stills.of fun w Post fin => ?_
  go_enter Try.func39, Try.ntmps39
  go_wp2_with fail
  all_goals (refine fin_bool fin ?_; simp only [great, Bool.or_eq_true, Bool.and_eq_true, beq_iff_eq, decide_eq_true_eq, Bool.true_eq_false, Bool.false_eq_true, eq_self, true_iff, iff_true, false_iff, reduceCtorEq]; omega)
theorem digit_any (c : Nat) : Stills 40 #[.int .u8 c] (.bool (digit c)) := by
  refine Stills.of fun w Post fin => ?_
  go_enter Try.func40, Try.ntmps40
  go_wp2_with fail
  all_goals (refine fin_bool fin ?_; simp only [digit, Bool.or_eq_true, Bool.and_eq_true, beq_iff_eq, decide_eq_true_eq, Bool.true_eq_false, Bool.false_eq_true, eq_self, true_iff, iff_true, false_iff, reduceCtorEq]; omega)

theorem sfx_cons {s : ByteArray} {i : Nat} (h : i < s.size) : sfx s i = s[i] :: sfx s (i + 1) := by
  unfold sfx
  rw [List.drop_eq_getElem_cons (by simpa using h)]
  rfl
theorem sfx_nil {s : ByteArray} {i : Nat} (h : s.size ≤ i) : sfx s i = [] := by
  unfold sfx
  exact List.drop_eq_nil_of_le (by simpa using h)
theorem sfx_length (s : ByteArray) (i : Nat) : (sfx s i).length = s.size - i := by unfold sfx; simp
theorem sfx_drop (s : ByteArray) (i n : Nat) : (sfx s i).drop n = sfx s (i + n) := by unfold sfx; rw [List.drop_drop]

theorem opens_any (s : ByteArray) (i : Nat) (hs : s.size ≤ maxLen) (hi : i < s.size) : Stills 22 #[.string s, .int .i64 i] (.bool (opens (sfx s i))) := by
  refine Stills.of fun w Post fin => ?_
  unfold maxLen at hs
  have hs' : (s.size : Int) ≤ 9223372036854775807 := by omega
  have hi' : (i : Int) < s.size := by omega
  by_cases h : (i : Int) + 1 < s.size
  · have e : opens (sfx s i) = ((s[i].toNat == 40) && (s[i + 1].toNat == 42)) := by
      rw [sfx_cons hi, sfx_cons (by omega : i + 1 < s.size)]; rfl
    rw [e] at fin; clear e
    go_enter Try.func22, Try.ntmps22
    go_wp2_with fail
    all_goals (refine fin_bool fin ?_; generalize s[i].toNat = a at *; generalize s[i + 1].toNat = b at *; simp only [Bool.or_eq_true, Bool.and_eq_true, beq_iff_eq, decide_eq_true_eq, Bool.true_eq_false, Bool.false_eq_true, eq_self, true_iff, iff_true, false_iff, reduceCtorEq]; omega)
  · have e : opens (sfx s i) = false := by
      rw [sfx_cons hi, sfx_nil (by omega : s.size ≤ i + 1)]; rfl
    rw [e] at fin; clear e
    go_enter Try.func22, Try.ntmps22
    go_wp2_with fail
    exact fin.out
theorem closes_any (s : ByteArray) (i : Nat) (hs : s.size ≤ maxLen) (hi : i < s.size) : Stills 35 #[.string s, .int .i64 i] (.bool (closes (sfx s i))) := by
  refine Stills.of fun w Post fin => ?_
  unfold maxLen at hs
  have hs' : (s.size : Int) ≤ 9223372036854775807 := by omega
  have hi' : (i : Int) < s.size := by omega
  by_cases h : (i : Int) + 1 < s.size
  · have e : closes (sfx s i) = ((s[i].toNat == 42) && (s[i + 1].toNat == 41)) := by
      rw [sfx_cons hi, sfx_cons (by omega : i + 1 < s.size)]; rfl
    rw [e] at fin; clear e
    go_enter Try.func35, Try.ntmps35
    go_wp2_with fail
    all_goals (refine fin_bool fin ?_; generalize s[i].toNat = a at *; generalize s[i + 1].toNat = b at *; simp only [Bool.or_eq_true, Bool.and_eq_true, beq_iff_eq, decide_eq_true_eq, Bool.true_eq_false, Bool.false_eq_true, eq_self, true_iff, iff_true, false_iff, reduceCtorEq]; omega)
  · have e : closes (sfx s i) = false := by
      rw [sfx_cons hi, sfx_nil (by omega : s.size ≤ i + 1)]; rfl
    rw [e] at fin; clear e
    go_enter Try.func35, Try.ntmps35
    go_wp2_with fail
    exact fin.out
end Go.Proofs.Ytkiijfgoaeiphaa

/- run, remark, wordKind, sign. -/
set_option linter.unusedVariables false
set_option linter.unusedSimpArgs false
namespace Go.Proofs.Ytkiijfgoaeiphaa
open Go.RowKit
attribute [local go_sem ↓] Go.wp_at_zero Go.wp_at_succ

theorem run_true {s : ByteArray} {k : Nat} {t : Bool} (h : k < s.size) (hn : nameByte t s[k].toNat = true) : run t (sfx s k) = run t (sfx s (k + 1)) + 1 := by
  rw [sfx_cons h]; simp only [run, count, hn, if_true]
theorem run_false {s : ByteArray} {k : Nat} {t : Bool} (h : k < s.size) (hn : nameByte t s[k].toNat = false) : run t (sfx s k) = 0 := by
  rw [sfx_cons h]; simp only [run, count, hn, if_false, Bool.false_eq_true]
theorem run_end {s : ByteArray} {k : Nat} {t : Bool} (h : s.size ≤ k) : run t (sfx s k) = 0 := by
  rw [sfx_nil h]; rfl
theorem fin_int {Post : Ending → World → Prop} {a : Int} {b : Int} {k : IntKind} {w : World} (h : Sec (Post (.returned (.int k b)) w)) (e : a = b) : Post (.returned (.int k a)) w := e ▸ h.out


set_option maxHeartbeats 1000000 in
theorem run_any (s : ByteArray) (i : Nat) (t : Bool) (hs : s.size ≤ maxLen) (hi : i ≤ s.size) : Stills 37 #[.string s, .int .i64 i, .bool t] (.int .i64 (run t (sfx s i))) := by
  refine Stills.of fun w Post fin => ?_
  unfold maxLen at hs
  have hs' : (s.size : Int) ≤ 9223372036854775807 := by omega
  go_enter Try.func37, Try.ntmps37
  go_wp2_with fail
  go_loopg [7, 8] (s.size - i) (fun n v c wr => ∃ k : Nat, Sec (k + n = s.size) ∧ i ≤ k ∧ v = .int .i64 k ∧ wr = w ∧ Sec (run t (sfx s i) = (k - i) + run t (sfx s k)))
  case atStart => exact ⟨i, ⟨by omega⟩, Nat.le_refl _, rfl, rfl, ⟨by omega⟩⟩
  case round =>
    obtain ⟨k, hn, hk, rfl, hwr, hE⟩ := hrel
    subst hwr
    by_cases hlt : k < s.size
    · have hki : (k : Int) < (s.size : Int) := by omega
      have hk0 : (0 : Int) ≤ (k : Int) := by omega
      cases gk with
      | zero => have := hn.out; omega
      | succ n =>
        have hT := Sec.mk (run_true (t := t) hlt)
        have hF := Sec.mk (run_false (t := t) hlt)
        have hwr : IntKind.i64.wrap ((k : Int) - (i : Int)) = (k : Int) - (i : Int) := IntWalk.i64_in _ (by omega)
        have cont : Sec (nameByte t s[k].toNat = true → run t (sfx s i) = (k + 1 - i) + run t (sfx s (k + 1))) := ⟨fun h => by have := hE.out; have := hT.out h; omega⟩
        have stop : Sec (nameByte t s[k].toNat = false → ((k : Int) - (i : Int)) = ((run t (sfx s i) : Nat) : Int)) := ⟨fun h => by have := hE.out; have := hF.out h; omega⟩
        generalize hc : s[k].toNat = c at *
        clear hT hF hE
        cases h1 : small c with
        | true =>
          (go_wp2_with (first | (refine (small_any _).use ?_) | (refine (great_any _).use ?_) | (refine (digit_any _).use ?_)))
          go_roundg n
          case measure => omega
          case rel => exact ⟨k + 1, ⟨by have := hn.out; omega⟩, by omega, by rw [show ((k + 1 : Nat) : Int) = (k : Int) + 1 from by omega], rfl, ⟨cont.out (by simp [nameByte, h1])⟩⟩
        | false =>
          cases h2 : great c with
          | true =>
            (go_wp2_with (first | (refine (small_any _).use ?_) | (refine (great_any _).use ?_) | (refine (digit_any _).use ?_)))
            go_roundg n
            case measure => omega
            case rel => exact ⟨k + 1, ⟨by have := hn.out; omega⟩, by omega, by rw [show ((k + 1 : Nat) : Int) = (k : Int) + 1 from by omega], rfl, ⟨cont.out (by simp [nameByte, h2])⟩⟩
          | false =>
            cases h3 : digit c with
            | true =>
              (go_wp2_with (first | (refine (small_any _).use ?_) | (refine (great_any _).use ?_) | (refine (digit_any _).use ?_)))
              go_roundg n
              case measure => omega
              case rel => exact ⟨k + 1, ⟨by have := hn.out; omega⟩, by omega, by rw [show ((k + 1 : Nat) : Int) = (k : Int) + 1 from by omega], rfl, ⟨cont.out (by simp [nameByte, h3])⟩⟩
            | false =>
              by_cases h4 : (c : Int) = 95
              · have h4' : ((c : Int) == 95) = true := beq_iff_eq.2 h4
                have hc4 : Sec (c = 95) := ⟨by omega⟩
                (go_wp2_with (first | (refine (small_any _).use ?_) | (refine (great_any _).use ?_) | (refine (digit_any _).use ?_)))
                go_roundg n
                case measure => omega
                case rel => exact ⟨k + 1, ⟨by have := hn.out; omega⟩, by omega, by rw [show ((k + 1 : Nat) : Int) = (k : Int) + 1 from by omega], rfl, ⟨cont.out (by simp [nameByte, hc4.out])⟩⟩
              · have h4' : ((c : Int) == 95) = false := beq_eq_false_iff_ne.2 h4
                have hc4 : Sec ((c == 95) = false) := ⟨beq_eq_false_iff_ne.2 (by omega)⟩
                cases t with
                | false =>
                  (go_wp2_with (first | (refine (small_any _).use ?_) | (refine (great_any _).use ?_) | (refine (digit_any _).use ?_)))
                  exact fin_int fin (stop.out (by simp [nameByte, h1, h2, h3, hc4.out]))
                | true =>
                  by_cases h5 : (c : Int) = 39
                  · have h5' : ((c : Int) == 39) = true := beq_iff_eq.2 h5
                    have hc5 : Sec (c = 39) := ⟨by omega⟩
                    (go_wp2_with (first | (refine (small_any _).use ?_) | (refine (great_any _).use ?_) | (refine (digit_any _).use ?_)))
                    go_roundg n
                    case measure => omega
                    case rel => exact ⟨k + 1, ⟨by have := hn.out; omega⟩, by omega, by rw [show ((k + 1 : Nat) : Int) = (k : Int) + 1 from by omega], rfl, ⟨cont.out (by simp [nameByte, hc5.out])⟩⟩
                  · have h5' : ((c : Int) == 39) = false := beq_eq_false_iff_ne.2 h5
                    have hc5 : Sec ((c == 39) = false) := ⟨beq_eq_false_iff_ne.2 (by omega)⟩
                    (go_wp2_with (first | (refine (small_any _).use ?_) | (refine (great_any _).use ?_) | (refine (digit_any _).use ?_)))
                    exact fin_int fin (stop.out (by simp [nameByte, h1, h2, h3, hc4.out, hc5.out]))
    · have hki : ¬ (k : Int) < (s.size : Int) := by omega
      have hwr : IntKind.i64.wrap ((k : Int) - (i : Int)) = (k : Int) - (i : Int) := IntWalk.i64_in _ (by have := hn.out; omega)
      have hZ := run_end (t := t) (by omega : s.size ≤ k)
      have e : Sec (((k : Int) - (i : Int)) = ((run t (sfx s i) : Nat) : Int)) := ⟨by have := hE.out; omega⟩
      clear hZ hE hn
      go_wp2_with fail
      exact fin_int fin e.out
end Go.Proofs.Ytkiijfgoaeiphaa

/- A text's bytes as a list. -/
set_option linter.unusedVariables false
namespace Go.Proofs.Ytkiijfgoaeiphaa
theorem ba_loop (b : ByteArray) : ∀ (n i : Nat) (r : List UInt8), b.size ≤ i + n → ByteArray.toList.loop b i r = r.reverse ++ b.data.toList.drop i := by
  intro n
  induction n with
  | zero =>
    intro i r h
    unfold ByteArray.toList.loop
    rw [if_neg (by omega), List.drop_eq_nil_of_le (by simpa using h), List.append_nil]
  | succ n ih =>
    intro i r h
    unfold ByteArray.toList.loop
    by_cases hi : i < b.size
    · rw [if_pos hi, ih _ _ (by omega)]
      have hl : i < b.data.toList.length := by simpa using hi
      rw [List.drop_eq_getElem_cons hl]
      have : b.get! i = b.data.toList[i] := by
        have h2 : i < b.data.size := hi
        simp only [ByteArray.get!, Array.getElem_toList]
        exact getElem!_pos b.data i h2
      simp [this]
    · rw [if_neg hi, List.drop_eq_nil_of_le (by simpa using Nat.le_of_not_lt hi), List.append_nil]
theorem ba_toList (b : ByteArray) : b.toList = b.data.toList := by
  unfold ByteArray.toList
  rw [ba_loop b b.size 0 [] (by omega)]
  simp
end Go.Proofs.Ytkiijfgoaeiphaa

/- remark, wordKind. -/
set_option linter.unusedVariables false
set_option linter.unusedSimpArgs false
namespace Go.Proofs.Ytkiijfgoaeiphaa
open Go.RowKit
attribute [local go_sem ↓] Go.wp_at_zero Go.wp_at_succ

theorem opens_two {s : ByteArray} {k : Nat} (h : opens (sfx s k) = true) : k + 1 < s.size := by
  rcases Nat.lt_or_ge (k + 1) s.size with hk | hk
  · exact hk
  · rcases Nat.lt_or_ge k s.size with h1 | h1
    · rw [sfx_cons h1, sfx_nil hk] at h; cases h
    · rw [sfx_nil h1] at h; cases h
theorem closes_two {s : ByteArray} {k : Nat} (h : closes (sfx s k) = true) : k + 1 < s.size := by
  rcases Nat.lt_or_ge (k + 1) s.size with hk | hk
  · exact hk
  · rcases Nat.lt_or_ge k s.size with h1 | h1
    · rw [sfx_cons h1, sfx_nil hk] at h; cases h
    · rw [sfx_nil h1] at h; cases h
theorem rem_opens {s : ByteArray} {k : Nat} (o : Int) (h : opens (sfx s k) = true) : remark o (sfx s k) = ((remark (o + 1) (sfx s (k + 2))).1 + 2, (remark (o + 1) (sfx s (k + 2))).2) := by
  have h2 := opens_two h
  rw [sfx_cons (by omega : k < s.size), sfx_cons h2] at h ⊢
  rw [remark, if_pos h]
theorem rem_closes {s : ByteArray} {k : Nat} (o : Int) (h0 : opens (sfx s k) = false) (h : closes (sfx s k) = true) :
    remark o (sfx s k) = if o - 1 = 0 then (2, true) else ((remark (o - 1) (sfx s (k + 2))).1 + 2, (remark (o - 1) (sfx s (k + 2))).2) := by
  have h2 := closes_two h
  rw [sfx_cons (by omega : k < s.size), sfx_cons h2] at h h0 ⊢
  rw [remark, if_neg (by rw [h0]; exact Bool.false_ne_true), if_pos h]
theorem rem_else {s : ByteArray} {k : Nat} (o : Int) (hk : k < s.size) (h0 : opens (sfx s k) = false) (h : closes (sfx s k) = false) :
    remark o (sfx s k) = ((remark o (sfx s (k + 1))).1 + 1, (remark o (sfx s (k + 1))).2) := by
  by_cases h2 : k + 1 < s.size
  · rw [sfx_cons hk, sfx_cons h2] at h h0 ⊢
    rw [remark, if_neg (by rw [h0]; exact Bool.false_ne_true), if_neg (by rw [h]; exact Bool.false_ne_true)]
  · rw [sfx_cons hk, sfx_nil (by omega : s.size ≤ k + 1)]
    rfl
theorem rem_end {s : ByteArray} {k : Nat} (o : Int) (hk : s.size ≤ k) : remark o (sfx s k) = (0, false) := by
  rw [sfx_nil hk]; rfl
theorem fin_two {Post : Ending → World → Prop} {a b : Int} {c d : Bool} {k : IntKind} {w : World} (h : Sec (Post (.returned (.tuple #[.int k b, .bool d])) w)) (e : a = b) (e2 : c = d) : Post (.returned (.tuple #[.int k a, .bool c])) w := e ▸ e2 ▸ h.out

set_option maxHeartbeats 1000000 in
theorem remark_any (s : ByteArray) (i : Nat) (hs : s.size ≤ maxLen) (hi : i ≤ s.size) : Stills 23 #[.string s, .int .i64 i] (.tuple #[.int .i64 ((i : Int) + (remark 0 (sfx s i)).1), .bool (remark 0 (sfx s i)).2]) := by
  refine Stills.of fun w Post fin => ?_
  have hs0 := hs
  unfold maxLen at hs
  have hs' : (s.size : Int) ≤ 9223372036854775807 := by omega
  go_enter Try.func23, Try.ntmps23
  go_wp2_with fail
  go_loopg [1, 6] (s.size - i) (fun n v c wr => ∃ (k : Nat) (o : Int), Sec (s.size ≤ k + n) ∧ k ≤ s.size ∧ v = .int .i64 k ∧ c = .int .i64 o ∧ wr = w ∧ Sec (-(k : Int) ≤ o ∧ o ≤ k) ∧ Sec (((remark 0 (sfx s i)).1 : Int) + i = (remark o (sfx s k)).1 + k) ∧ Sec ((remark 0 (sfx s i)).2 = (remark o (sfx s k)).2))
  case atStart => exact ⟨i, 0, ⟨by omega⟩, hi, rfl, rfl, rfl, ⟨by omega⟩, ⟨rfl⟩, ⟨rfl⟩⟩
  case round =>
    obtain ⟨k, o, hn, hk, rfl, rfl, hwr, ho, hE, hF⟩ := hrel
    subst hwr
    by_cases hlt : k < s.size
    · have hki : (k : Int) < (s.size : Int) := by omega
      have hk0 : (0 : Int) ≤ (k : Int) := by omega
      cases gk with
      | zero => have := hn.out; omega
      | succ n =>
        have w1 : IntKind.i64.wrap (o + 1) = o + 1 := IntWalk.i64_in _ (by have := ho.out; omega)
        have w2 : IntKind.i64.wrap (o - 1) = o - 1 := IntWalk.i64_in _ (by have := ho.out; omega)
        cases h1 : opens (sfx s k) with
        | true =>
          have h2 := opens_two h1
          have hk2 : (k : Int) + 2 ≤ 9223372036854775807 := by omega
          have e := Sec.mk (rem_opens o h1)
          go_wp2_with fail
          refine (opens_any s k hs0 hlt).use ?_
          go_wp2_with fail
          go_roundg n
          case measure => omega
          case rel => exact ⟨k + 2, o + 1, ⟨by have := hn.out; omega⟩, by omega, by rw [show ((k + 2 : Nat) : Int) = (k : Int) + 2 from by omega], rfl, rfl, ⟨by have := ho.out; omega⟩, ⟨by have := hE.out; rw [e.out] at this; simp only at this; omega⟩, ⟨by have := hF.out; rw [e.out] at this; exact this⟩⟩
        | false =>
          cases h3 : closes (sfx s k) with
          | true =>
            have h2 := closes_two h3
            have hk2 : (k : Int) + 2 ≤ 9223372036854775807 := by omega
            have e := Sec.mk (rem_closes o h1 h3)
            by_cases h4 : o - 1 = 0
            · replace e := Sec.mk (e.out.trans (if_pos h4))
              obtain rfl : o = 1 := by omega
              clear h4 w1 w2
              go_wp2_with fail
              refine (opens_any s k hs0 hlt).use ?_
              go_wp2_with fail
              refine (closes_any s k hs0 hlt).use ?_
              go_wp2_with fail
              exact fin_two fin (by have := hE.out; rw [e.out] at this; simp only at this; omega) (by have := hF.out; rw [e.out] at this; exact this.symm)
            · replace e := Sec.mk (e.out.trans (if_neg h4))
              obtain ⟨p, hp⟩ : ∃ p, o - 1 = p := ⟨_, rfl⟩
              have hp' := Sec.mk hp
              have w3 : IntKind.i64.wrap (o - 1) = p := w2.trans hp
              rw [hp] at h4 e
              have h5 : (p == 0) = false := beq_eq_false_iff_ne.2 h4
              clear w1 w2 hp
              go_wp2_with fail
              refine (opens_any s k hs0 hlt).use ?_
              go_wp2_with fail
              refine (closes_any s k hs0 hlt).use ?_
              go_wp2_with fail
              go_roundg n
              case measure => omega
              case rel => exact ⟨k + 2, p, ⟨by have := hn.out; omega⟩, by omega, by rw [show ((k + 2 : Nat) : Int) = (k : Int) + 2 from by omega], rfl, rfl, ⟨by have := ho.out; have := hp'.out; omega⟩, ⟨by have := hE.out; rw [e.out] at this; simp only at this; omega⟩, ⟨by have := hF.out; rw [e.out] at this; exact this⟩⟩
          | false =>
            have e := Sec.mk (rem_else o hlt h1 h3)
            go_wp2_with fail
            refine (opens_any s k hs0 hlt).use ?_
            go_wp2_with fail
            refine (closes_any s k hs0 hlt).use ?_
            go_wp2_with fail
            go_roundg n
            case measure => omega
            case rel => exact ⟨k + 1, o, ⟨by have := hn.out; omega⟩, by omega, by rw [show ((k + 1 : Nat) : Int) = (k : Int) + 1 from by omega], rfl, rfl, ⟨by have := ho.out; omega⟩, ⟨by have := hE.out; rw [e.out] at this; simp only at this; omega⟩, ⟨by have := hF.out; rw [e.out] at this; exact this⟩⟩
    · have hki : ¬ (k : Int) < (s.size : Int) := by omega
      have e := Sec.mk (rem_end o (by omega : s.size ≤ k))
      go_wp2_with fail
      exact fin_two fin (by have := hE.out; rw [e.out] at this; simp only at this; omega) (by have := hF.out; rw [e.out] at this; exact this.symm)

theorem str_eq (a : ByteArray) (b : List UInt8) : (a.toList == (⟨b.toArray⟩ : ByteArray).toList) = (a.data.toList == b) := by
  rw [ba_toList, ba_toList]
theorem wordKind_any (v : ByteArray) : Stills 38 #[.string v] (.int .i64 (wordKind v.data.toList)) := by
  refine Stills.of fun w Post fin => ?_
  go_enter Try.func38, Try.ntmps38
  go_wp2_with fail
  all_goals
    rw [← ba_toList] at fin
    generalize v.toList = l at *
    refine fin_int fin ?_
    simp_all [wordKind, keys]
end Go.Proofs.Ytkiijfgoaeiphaa

/- sign, token, nothing. -/
set_option linter.unusedVariables false
set_option linter.unusedSimpArgs false
namespace Go.Proofs.Ytkiijfgoaeiphaa
open Go.RowKit
attribute [local go_sem ↓] Go.wp_at_zero Go.wp_at_succ

theorem ext_toList (s : ByteArray) (i j : Nat) : (s.extract i j).data.toList = (sfx s i).take (j - i) := by
  unfold sfx
  rw [ByteArray.data_extract, Array.toList_extract]
theorem ext_toList' (s : ByteArray) (i j : Nat) : (s.extract i j).toList = (sfx s i).take (j - i) := by rw [ba_toList, ext_toList]

theorem sign_any (s : ByteArray) (i : Nat) (hs : s.size ≤ maxLen) (hi : i < s.size) : Stills 41 #[.string s, .int .i64 i] (.int .i64 (sign (sfx s i))) := by
  refine Stills.of fun w Post fin => ?_
  unfold maxLen at hs
  have hs' : (s.size : Int) ≤ 9223372036854775807 := by omega
  have hi' : (i : Int) < s.size := by omega
  have hi0 : (0 : Int) ≤ i := by omega
  by_cases h : (i : Int) + 1 < s.size
  · have e2 : (s.extract i (i + 2)).toList = [s[i], s[i + 1]] := by
      rw [ext_toList', sfx_cons hi, sfx_cons (by omega : i + 1 < s.size), show i + 2 - i = 2 by omega]; rfl
    have e3 : sfx s i = s[i] :: s[i + 1] :: sfx s (i + 2) := by rw [sfx_cons hi, sfx_cons (by omega : i + 1 < s.size)]
    have e : Sec (sign (sfx s i) = if [[45, 62], [58, 58], [59, 59]].contains (s.extract i (i + 2)).toList then 2 else if [40, 41, 44, 124, 61, 60, 43, 45, 42].contains s[i].toNat then 1 else 0) := ⟨by rw [e2, e3]; rfl⟩
    rw [e.out] at fin
    clear e e2 e3
    have h2 : (i : Int) + 2 ≤ s.size := by omega
    have h3 : i + 2 ≤ s.size := by omega
    go_enter Try.func41, Try.ntmps41
    go_wp2_with fail
    all_goals
      generalize (s.extract i (i + 2)).toList = l at *
      generalize s[i].toNat = c at *
      refine fin_int fin ?_
      clear fin
      simp_all
      try (split <;> omega)
  · have e3 : sfx s i = [s[i]] := by rw [sfx_cons hi, sfx_nil (by omega : s.size ≤ i + 1)]
    have e : Sec (sign (sfx s i) = if [40, 41, 44, 124, 61, 60, 43, 45, 42].contains s[i].toNat then 1 else 0) := ⟨by rw [e3]; simp [sign]⟩
    rw [e.out] at fin
    clear e e3
    go_enter Try.func41, Try.ntmps41
    go_wp2_with fail
    all_goals
      generalize s[i].toNat = c at *
      refine fin_int fin ?_
      clear fin
      simp_all
      try (split <;> omega)
end Go.Proofs.Ytkiijfgoaeiphaa

/- token. -/
set_option linter.unusedVariables false
set_option linter.unusedSimpArgs false
namespace Go.Proofs.Ytkiijfgoaeiphaa
open Go.RowKit
attribute [local go_sem ↓] Go.wp_at_zero Go.wp_at_succ

theorem count_le (p : Nat → Bool) : ∀ l : Bs, count p l ≤ l.length
  | [] => Nat.le_refl _
  | c :: r => by
    have := count_le p r
    unfold count
    split
    · simp; omega
    · simp
theorem run_le (t : Bool) (s : ByteArray) (i : Nat) : run t (sfx s i) ≤ s.size - i := by
  have := count_le (nameByte t) (sfx s i)
  rwa [sfx_length] at this
theorem count_true {p : Nat → Bool} {s : ByteArray} {k : Nat} (h : k < s.size) (hn : p s[k].toNat = true) : count p (sfx s k) = count p (sfx s (k + 1)) + 1 := by
  rw [sfx_cons h]; simp only [count, hn, if_true]
theorem count_false {p : Nat → Bool} {s : ByteArray} {k : Nat} (h : k < s.size) (hn : p s[k].toNat = false) : count p (sfx s k) = 0 := by
  rw [sfx_cons h]; simp only [count, hn, if_false, Bool.false_eq_true]
theorem count_end {p : Nat → Bool} {s : ByteArray} {k : Nat} (h : s.size ≤ k) : count p (sfx s k) = 0 := by
  rw [sfx_nil h]; rfl
theorem fin_pair {Post : Ending → World → Prop} {a b c d : Int} {k k' : IntKind} {w : World} (h : Sec (Post (.returned (.tuple #[.int k b, .int k' d])) w)) (e : a = b) (e2 : c = d) : Post (.returned (.tuple #[.int k a, .int k' c])) w := e ▸ e2 ▸ h.out

set_option maxHeartbeats 1000000 in
theorem token_any (s : ByteArray) (i : Nat) (hs : s.size ≤ maxLen) (hi : i < s.size) : Stills 24 #[.string s, .int .i64 i] (.tuple #[.int .i64 (token (sfx s i)).1, .int .i64 (token (sfx s i)).2]) := by
  refine Stills.of fun w Post fin => ?_
  have hs0 := hs
  unfold maxLen at hs
  have hs' : (s.size : Int) ≤ 9223372036854775807 := by omega
  have hi' : (i : Int) < s.size := by omega
  have hi0 : (0 : Int) ≤ i := by omega
  have hr := run_le true s i
  have hru := run_any s i true hs0 (by omega)
  have hsi := sign_any s i hs0 hi
  have hx := sfx_cons hi
  have hR : Sec (run true (s[i] :: sfx s (i + 1)) = run true (sfx s i)) := ⟨by rw [← hx]⟩
  have hS : Sec (sign (s[i] :: sfx s (i + 1)) = sign (sfx s i)) := ⟨by rw [← hx]⟩
  have hT : Sec (token (sfx s i) = token (s[i] :: sfx s (i + 1))) := ⟨by rw [← hx]⟩
  have hW : Sec ((s[i] :: sfx s (i + 1)).take (run true (sfx s i)) = (s.extract i (i + run true (sfx s i))).data.toList) := ⟨by rw [ext_toList, ← hx]; congr 1; omega⟩
  rw [hT.out] at fin
  have hU : Sec (token (s[i] :: sfx s (i + 1)) = if small s[i].toNat || s[i].toNat == 95 then (wordKind (s.extract i (i + run true (sfx s i))).data.toList, run true (sfx s i))
    else if great s[i].toNat then (2, run true (sfx s i))
    else if digit s[i].toNat then (3, count digit (sfx s (i + 1)) + 1)
    else if s[i].toNat == 39 then (match sfx s (i + 1) with | [] => (0, 0) | d :: r' => if small d.toNat then (4, 1 + run false (d :: r')) else (0, 0))
    else if 0 < sign (sfx s i) then (6, sign (sfx s i)) else (0, 0)) := ⟨by rw [token.eq_def]; dsimp only; rw [hR.out, hS.out, hW.out]; rfl⟩
  clear hT hR hS hW hx
  generalize hrn : run true (sfx s i) = rn at *
  generalize hsn : sign (sfx s i) = sn at *
  clear hrn hsn
  have hrn1 : (i : Int) + (rn : Int) ≤ (s.size : Int) := by omega
  have hrn2 : i + rn ≤ s.size := by omega
  go_enter Try.func24, Try.ntmps24
  go_wp2_with fail
  refine (small_any _).use ?_
  have wk := wordKind_any (s.extract i (i + rn))
  generalize wordKind (s.extract i (i + rn)).data.toList = wkn at wk hU
  by_cases hA : (small s[i].toNat || s[i].toNat == 95) = true
  · replace hU := Sec.mk (hU.out.trans (if_pos hA))
    rw [hU.out] at fin
    clear hU
    cases h1 : small s[i].toNat with
    | true =>
      clear hA
      go_wp2_with (first | refine hru.use ?_ | refine wk.use ?_)
      exact fin.out
    | false =>
      have h2 : (s[i].toNat : Int) = 95 := by rw [h1] at hA; have := beq_iff_eq.1 hA; omega
      clear hA
      go_wp2_with (first | refine hru.use ?_ | refine wk.use ?_)
      exact fin.out
  · replace hU := Sec.mk (hU.out.trans (if_neg hA))
    have h1 : small s[i].toNat = false := by cases h : small s[i].toNat with
      | false => rfl
      | true => rw [h] at hA; exact absurd rfl hA
    have h2 : ¬ (s[i].toNat : Int) = 95 := fun h => hA (by rw [show s[i].toNat = 95 by omega]; simp)
    clear hA wk
    cases h3 : great s[i].toNat with
    | true =>
      replace hU := Sec.mk (hU.out.trans (if_pos h3))
      rw [hU.out] at fin
      clear hU
      go_wp2_with (first | refine hru.use ?_ | refine (great_any _).use ?_)
      exact fin.out
    | false =>
      replace hU := Sec.mk (hU.out.trans (if_neg (nott h3)))
      cases h4 : digit s[i].toNat with
      | true =>
        replace hU := Sec.mk (hU.out.trans (if_pos h4))
        rw [hU.out] at fin
        clear hU hru hsi
        go_wp2_with (first | refine (great_any _).use ?_ | refine (digit_any _).use ?_)
        go_loopg [8] (s.size - i) (fun n v wr => ∃ k : Nat, Sec (s.size ≤ k + n) ∧ k ≤ s.size ∧ i + 1 ≤ k ∧ v = .int .i64 k ∧ wr = w ∧ Sec (count digit (sfx s (i + 1)) + (i + 1) = count digit (sfx s k) + k))
        case atStart => exact ⟨i + 1, ⟨by omega⟩, by omega, by omega, by rw [show ((i + 1 : Nat) : Int) = (i : Int) + 1 from by omega], rfl, ⟨rfl⟩⟩
        case round =>
          obtain ⟨k, hn, hk, hk1, rfl, hwr, hE⟩ := hrel
          subst hwr
          have hwr : IntKind.i64.wrap ((k : Int) - (i : Int)) = (k : Int) - (i : Int) := IntWalk.i64_in _ (by omega)
          by_cases hlt : k < s.size
          · have hki : (k : Int) < (s.size : Int) := by omega
            have hk0 : (0 : Int) ≤ (k : Int) := by omega
            cases h5 : digit s[k].toNat with
            | true =>
              cases gk with
              | zero => have := hn.out; omega
              | succ n =>
                have hc := Sec.mk (count_true hlt h5)
                go_wp2_with (first | refine (digit_any _).use ?_)
                go_roundg n
                case measure => omega
                case rel => exact ⟨k + 1, ⟨by have := hn.out; omega⟩, by omega, by omega, by rw [show ((k + 1 : Nat) : Int) = (k : Int) + 1 from by omega], rfl, ⟨by have := hE.out; have := hc.out; omega⟩⟩
            | false =>
              have hc := Sec.mk (count_false hlt h5)
              go_wp2_with (first | refine (digit_any _).use ?_)
              exact fin_pair fin rfl (by have := hE.out; have := hc.out; omega)
          · have hki : ¬ (k : Int) < (s.size : Int) := by omega
            have hc := Sec.mk (count_end (p := digit) (by omega : s.size ≤ k))
            go_wp2_with fail
            exact fin_pair fin rfl (by have := hE.out; have := hc.out; omega)
      | false =>
        replace hU := Sec.mk (hU.out.trans (if_neg (nott h4)))
        by_cases h5 : (s[i].toNat : Int) = 39
        · replace hU := Sec.mk (hU.out.trans (if_pos (beq_iff_eq.2 (by omega))))
          by_cases h6 : (i : Int) + 1 < s.size
          · have h6' : i + 1 < s.size := by omega
            have hrf := run_any s (i + 1) false hs0 (by omega)
            have hrl := run_le false s (i + 1)
            have hf0 : Sec (run false (s[i + 1] :: sfx s (i + 1 + 1)) = run false (sfx s (i + 1))) := ⟨by rw [← sfx_cons h6']⟩
            have hsf := sfx_cons h6'
            cases h7 : small s[i + 1].toNat with
            | true =>
              replace hU : Sec (token (s[i] :: sfx s (i + 1)) = (4, 1 + run false (sfx s (i + 1)))) := ⟨by rw [hU.out]; rw [← hf0.out]; rw [hsf]; simp only [h7, if_true]⟩
              rw [hU.out] at fin
              generalize run false (sfx s (i + 1)) = rf at *
              rw [show ((i + 1 : Nat) : Int) = (i : Int) + 1 from by omega] at hrf
              have hrf1 : (1 : Int) + (rf : Int) ≤ 9223372036854775807 := by omega
              have fin2 : Sec (Post (.returned (.tuple #[.int .i64 4, .int .i64 (1 + (rf : Int))])) w) := ⟨fin_pair fin rfl (by omega)⟩
              clear hU hru hsi hsf hf0 fin
              go_wp2_with (first | refine (great_any _).use ?_ | refine (digit_any _).use ?_ | refine (small_any _).use ?_ | refine hrf.use ?_)
              exact fin2.out
            | false =>
              replace hU : Sec (token (s[i] :: sfx s (i + 1)) = (0, 0)) := ⟨by rw [hU.out, hsf]; simp only [h7, Bool.false_eq_true, if_false]⟩
              rw [hU.out] at fin
              clear hU hru hsi hsf hf0 hrf
              go_wp2_with (first | refine (great_any _).use ?_ | refine (digit_any _).use ?_ | refine (small_any _).use ?_)
              exact fin.out
          · replace hU : Sec (token (s[i] :: sfx s (i + 1)) = (0, 0)) := ⟨by rw [hU.out, sfx_nil (by omega : s.size ≤ i + 1)]⟩
            rw [hU.out] at fin
            clear hU hru hsi
            go_wp2_with (first | refine (great_any _).use ?_ | refine (digit_any _).use ?_ | refine (small_any _).use ?_)
            exact fin.out
        · replace hU := Sec.mk (hU.out.trans (if_neg (fun h => h5 (by have := beq_iff_eq.1 h; omega))))
          by_cases h6 : 0 < sn
          · replace hU := Sec.mk (hU.out.trans (if_pos h6))
            rw [hU.out] at fin
            have h6' : (0 : Int) < (sn : Int) := by omega
            clear hU hru
            go_wp2_with (first | refine (great_any _).use ?_ | refine (digit_any _).use ?_ | refine hsi.use ?_)
            exact fin.out
          · replace hU := Sec.mk (hU.out.trans (if_neg h6))
            rw [hU.out] at fin
            obtain rfl : sn = 0 := by omega
            clear hU hru
            go_wp2_with (first | refine (great_any _).use ?_ | refine (digit_any _).use ?_ | refine hsi.use ?_)
            exact fin.out
end Go.Proofs.Ytkiijfgoaeiphaa

/- nothing. -/
set_option linter.unusedVariables false
set_option linter.unusedSimpArgs false
namespace Go.Proofs.Ytkiijfgoaeiphaa
open Go.RowKit
attribute [local go_sem ↓] Go.wp_at_zero Go.wp_at_succ

theorem nothing_stop {s : ByteArray} {k : Nat} (h : k < s.size) (hn : white s[k].toNat = true ∨ opens (sfx s k) = true ∨ 0 < (token (sfx s k)).2) : nothing (sfx s k) = 0 := by
  have e := sfx_cons h
  rw [e] at hn ⊢
  rw [nothing, if_pos]
  rcases hn with hn | hn | hn
  · simp [hn]
  · simp [hn]
  · simp [hn]
theorem nothing_go {s : ByteArray} {k : Nat} (h : k < s.size) (h1 : white s[k].toNat = false) (h2 : opens (sfx s k) = false) (h3 : (token (sfx s k)).2 = 0) : nothing (sfx s k) = nothing (sfx s (k + 1)) + 1 := by
  have e := sfx_cons h
  rw [e] at h2 h3 ⊢
  rw [nothing, if_neg]
  simp [h1, h2, h3]
theorem nothing_end {s : ByteArray} {k : Nat} (h : s.size ≤ k) : nothing (sfx s k) = 0 := by
  rw [sfx_nil h]; rfl

set_option maxHeartbeats 1000000 in
theorem nothing_any (s : ByteArray) (i : Nat) (hs : s.size ≤ maxLen) (hi : i < s.size) : Stills 25 #[.string s, .int .i64 i] (.int .i64 ((nothing (sfx s (i + 1)) + 1 : Nat) : Int)) := by
  refine Stills.of fun w Post fin => ?_
  have hs0 := hs
  unfold maxLen at hs
  have hs' : (s.size : Int) ≤ 9223372036854775807 := by omega
  have hi' : (i : Int) < s.size := by omega
  have hi0 : (0 : Int) ≤ i := by omega
  go_enter Try.func25, Try.ntmps25
  go_wp2_with fail
  go_loopg [5, 6, 7] (s.size - i) (fun n v _ _ wr => ∃ k : Nat, Sec (s.size ≤ k + n) ∧ k ≤ s.size ∧ i + 1 ≤ k ∧ v = .int .i64 k ∧ wr = w ∧ Sec (nothing (sfx s (i + 1)) + (i + 1) = nothing (sfx s k) + k))
  case atStart => exact ⟨i + 1, ⟨by omega⟩, by omega, by omega, by rw [show ((i + 1 : Nat) : Int) = (i : Int) + 1 from by omega], rfl, ⟨rfl⟩⟩
  case round =>
    obtain ⟨k, hn, hk, hk1, rfl, hwr, hE⟩ := hrel
    subst hwr
    have hwr : IntKind.i64.wrap ((k : Int) - (i : Int)) = (k : Int) - (i : Int) := IntWalk.i64_in _ (by omega)
    by_cases hlt : k < s.size
    · have hki : (k : Int) < (s.size : Int) := by omega
      have hk0 : (0 : Int) ≤ (k : Int) := by omega
      have ho := opens_any s k hs0 hlt
      have ht := token_any s k hs0 hlt
      cases h1 : white s[k].toNat with
      | true =>
        have e := Sec.mk (nothing_stop hlt (.inl h1))
        clear ho ht
        go_wp2_with (refine (white_any _).use ?_)
        exact fin_int fin (by have := hE.out; have := e.out; omega)
      | false =>
        cases h2 : opens (sfx s k) with
        | true =>
          have e := Sec.mk (nothing_stop hlt (.inr (.inl h2)))
          rw [h2] at ho
          clear ht
          go_wp2_with (first | refine (white_any _).use ?_ | refine ho.use ?_)
          exact fin_int fin (by have := hE.out; have := e.out; omega)
        | false =>
          rw [h2] at ho
          by_cases h3 : 0 < (token (sfx s k)).2
          · have e := Sec.mk (nothing_stop hlt (.inr (.inr h3)))
            generalize token (sfx s k) = tk at *
            obtain ⟨t1, t2⟩ := tk
            have h3' : (0 : Int) < (t2 : Int) := by simp only at h3; omega
            dsimp only at ht
            go_wp2_with (first | refine (white_any _).use ?_ | refine ho.use ?_ | refine ht.use ?_)
            exact fin_int fin (by have := hE.out; have := e.out; omega)
          · have e := Sec.mk (nothing_go hlt h1 h2 (by omega))
            generalize token (sfx s k) = tk at *
            obtain ⟨t1, t2⟩ := tk
            obtain rfl : t2 = 0 := by simp only at h3; omega
            dsimp only at ht
            cases gk with
            | zero => have := hn.out; omega
            | succ n =>
              go_wp2_with (first | refine (white_any _).use ?_ | refine ho.use ?_ | refine ht.use ?_)
              go_roundg n
              case measure => omega
              case rel => exact ⟨k + 1, ⟨by have := hn.out; omega⟩, by omega, by omega, by rw [show ((k + 1 : Nat) : Int) = (k : Int) + 1 from by omega], rfl, ⟨by have := hE.out; have := e.out; omega⟩⟩
    · have hki : ¬ (k : Int) < (s.size : Int) := by omega
      have e := Sec.mk (nothing_end (by omega : s.size ≤ k))
      go_wp2_with fail
      exact fin_int fin (by have := hE.out; have := e.out; omega)
end Go.Proofs.Ytkiijfgoaeiphaa

/- A list of tokens that grows. -/
set_option linter.unusedVariables false
set_option linter.unusedSimpArgs false
namespace Go.Proofs.Ytkiijfgoaeiphaa
open Go.RowKit

def tokRow (l : List Tok) : List Value := l.flatMap tokCells
theorem tokRow_len (l : List Tok) : (tokRow l).length = l.length * 3 := by
  unfold tokRow
  induction l with
  | nil => rfl
  | cons t r ih => rw [List.flatMap_cons, List.length_append, ih]; simp [tokCells]; omega
theorem tokRow_get : ∀ (l : List Tok) (j : Nat) (t : Tok), l[j]? = some t → ∀ i u, (tokCells t)[i]? = some u → (tokRow l)[j * 3 + i]? = some u
  | [], j, t, h, _, _, _ => by simp at h
  | x :: r, 0, t, h, i, u, hu => by
    have : x = t := by simpa using h
    subst this
    have hi : i < (tokCells x).length := (List.getElem?_eq_some_iff.1 hu).1
    unfold tokRow
    rw [List.flatMap_cons, List.getElem?_append_left (by simpa using hi)]
    simpa using hu
  | x :: r, j + 1, t, h, i, u, hu => by
    have h' : r[j]? = some t := by simpa using h
    have := tokRow_get r j t h' i u hu
    have hl : (tokCells x).length = 3 := rfl
    unfold tokRow at this ⊢
    rw [List.flatMap_cons, List.getElem?_append_right (by rw [hl]; omega), hl, show (j + 1) * 3 + i - 3 = j * 3 + i by omega]
    exact this
/-- The call began in w; now the world is W, the row v holds the tokens l. -/
structure TL (w W : World) (v : Value) (l : List Tok) : Prop where
  own : W.ownsRow w.heap.size 31 3 v l.length (tokRow l)
  below : Below w.heap.size w W
theorem TL.nil (w : World) : TL w w (.slice none 0 0) [] := ⟨World.ownsRow_nil _ _ _ _, Below.refl _ _⟩
theorem TL.shape {w W : World} {v : Value} {l : List Tok} (h : TL w W v l) : ∃ a c, v = .slice a l.length c := by
  rcases h.own.2 with ⟨rfl, h0⟩ | ⟨g, cap, cur, rfl, _⟩
  · exact ⟨none, 0, by rw [h0]⟩
  · exact ⟨_, cap, rfl⟩
theorem TL.reads {w W : World} {v : Value} {l : List Tok} (h : TL w W v l) (hl : l.length ≤ maxLen) : ToksAt W (fun b => w.heap.size ≤ b ∧ b < W.heap.size) v l := by
  have hlt := h.own.lt
  rcases h.own.2 with ⟨rfl, h0⟩ | ⟨g, cap, cur, rfl, hb, hh, h1, h2, h3, h4⟩
  · have : l = [] := List.eq_nil_of_length_eq_zero h0
    subst this
    exact ⟨none, 0, rfl, by simp, fun hn => absurd rfl hn⟩
  · refine ⟨_, cap, rfl, hl, fun _ => ⟨g, 0, rfl, hlt g rfl, fun j t hj i u hu => ?_⟩⟩
    have := h.own.cells (g := g) rfl (j * 3 + i) u (tokRow_get l j t hj i u hu)
    rwa [show (⟨g, 0, none⟩ : Addr).add (j * 3 + i) = ⟨g, 0 + j * 3 + i, none⟩ by simp only [Addr.add, Nat.zero_add]; split <;> simp_all] at this

theorem infoTok : (Try.prog.info? 31).map (fun i => (i.zero, i.size, i.bytes)) = some (some (.agg #[.int .i64 0, .int .i64 0, .int .i64 0]), 3, 24) := by kernel_rfl
theorem push_tok {ops : Array Oper} {rest : List Oper} {o : Oper} {a : Act} {Q : Exit → Act → World → Prop} {w W : World} {v : Value} {l : List Tok}
    (hgd : o.guard = none) (s z : Operand) (ho : o.op = .call { callee := .builtin .append, args := #[s, z], argTypes := #[28, 28] }) (y : Tok)
    (hs : a.eval s = v) (hz : a.eval z = .slice (some ⟨W.heap.size, 0, none⟩) 1 1) (hK : TL w W v l) (hl : l.length ≤ 9 * most)
    (h : ∀ v' w', TL w w' v' (l ++ [y]) → wpList Try.prog ops Q rest (a.put o.dst v') w') : wpList Try.prog ops Q (o :: rest) a (W.alloc (.cells #[.int .i64 y.kind, .int .i64 y.lo, .int .i64 y.hi] 31)) := by
  obtain ⟨i0, hi0, hz0, hz1, hz2⟩ := info_parts infoTok
  unfold most at hl
  have hsz := hK.below.size
  refine wpList_append_lies (W.alloc (.cells #[.int .i64 y.kind, .int .i64 y.lo, .int .i64 y.hi] 31)) hgd s z 28 ho w.heap.size 31 i0 _ 3 24 Try.underlying28 hi0 hz0 hz1 hz2 rfl (by omega) v l.length (tokRow l) hs (hK.own.alloc _) ⟨W.heap.size, 0, none⟩ 1 1 [.int .i64 y.kind, .int .i64 y.lo, .int .i64 y.hi] hz rfl
    (World.news_of_block (cs := #[.int .i64 y.kind, .int .i64 y.lo, .int .i64 y.hi]) (t := 31) (fr := (0, 0)) (heap_alloc_new W _)) (by simp [Value.oneCell']) (by omega) (by unfold maxLen; omega) (by omega) (by simp; omega) (W.heap.size + 1) (by simp) ?_
  intro g cap w1 hown hgr hat hlt
  refine h _ w1 ⟨?_, ?_⟩
  · have : tokRow (l ++ [y]) = tokRow l ++ [.int .i64 y.kind, .int .i64 y.lo, .int .i64 y.hi] := by simp [tokRow, tokCells]
    rw [this, List.length_append]
    exact hown
  · have hb : Below w.heap.size w (W.alloc (.cells #[.int .i64 y.kind, .int .i64 y.lo, .int .i64 y.hi] 31)) := hK.below.alloc (by simpa using hK.below.size) _
    refine ⟨hgr.os.trans hb.os, hgr.tape.trans hb.tape, hgr.output.trans hb.output, Nat.le_trans hb.size hgr.size, fun i hi => (hgr.block i (by have := hb.size; omega) (fun e => ?_)).trans (hb.block i hi)⟩
    have := (hK.own.lt i e.symm).1
    omega
end Go.Proofs.Ytkiijfgoaeiphaa

/- Lex. -/
set_option linter.unusedVariables false
set_option linter.unusedSimpArgs false
namespace Go.Proofs.Ytkiijfgoaeiphaa
open Go.RowKit
attribute [local go_sem ↓] Go.wp_at_zero Go.wp_at_succ

theorem remark_le : ∀ (o : Int) (l : Bs), (remark o l).1 ≤ l.length
  | _, [] => Nat.le_refl _
  | _, [_] => Nat.le_refl _
  | o, a :: b :: r => by
    have h1 := remark_le (o + 1) r
    have h2 := remark_le (o - 1) r
    have h3 := remark_le o (b :: r)
    rw [remark]
    simp only [List.length_cons] at h3 ⊢
    split
    · simp only; omega
    · split
      · split <;> (simp only; omega)
      · simp only; omega
theorem nothing_le : ∀ l : Bs, nothing l ≤ l.length
  | [] => Nat.le_refl _
  | c :: r => by
    have := nothing_le r
    rw [nothing]
    split
    · exact Nat.zero_le _
    · simp; omega
theorem sign_le (l : Bs) : sign l ≤ l.length := by
  cases l with
  | nil => exact Nat.le_refl _
  | cons a r =>
    cases r with
    | nil =>
      rw [sign, if_neg (by simp)]
      split <;> simp
    | cons b r =>
      rw [sign]
      split
      · simp
      · split <;> simp
theorem token_le (l : Bs) : (token l).2 ≤ l.length := by
  cases l with
  | nil => exact Nat.le_refl _
  | cons c r =>
    have h1 := count_le (nameByte true) (c :: r)
    have h2 := count_le digit r
    have h4 := sign_le (c :: r)
    rw [token.eq_def]
    dsimp only
    split
    · exact h1
    · split
      · exact h1
      · split
        · simp only [List.length_cons]; omega
        · split
          · cases r with
            | nil => exact Nat.zero_le _
            | cons d r' =>
              have h3 := count_le (nameByte false) (d :: r')
              dsimp only
              split
              · simp only [List.length_cons, run] at h3 ⊢; omega
              · exact Nat.zero_le _
          · split
            · exact h4
            · exact Nat.zero_le _
theorem sfx_le {s : ByteArray} {k n : Nat} (h : n ≤ (sfx s k).length) (hk : k ≤ s.size) : k + n ≤ s.size := by
  rw [sfx_length] at h; omega

theorem lex_white {s : ByteArray} {k n : Nat} (hk : k < s.size) (h : white s[k].toNat = true) : lexF (n + 1) k (sfx s k) = lexF n (k + 1) (sfx s (k + 1)) := by
  rw [sfx_cons hk, lexF, if_pos h]
theorem lex_remark {s : ByteArray} {k n : Nat} (hk : k < s.size) (h : white s[k].toNat = false) (h2 : opens (sfx s k) = true) (h3 : (remark 0 (sfx s k)).2 = true) :
    lexF (n + 1) k (sfx s k) = lexF n (k + (remark 0 (sfx s k)).1) (sfx s (k + (remark 0 (sfx s k)).1)) := by
  rw [← sfx_drop]
  rw [sfx_cons hk] at h2 h3 ⊢
  rw [lexF, if_neg (nott h), if_pos h2, if_pos h3]
theorem lex_open {s : ByteArray} {k n : Nat} (hk : k < s.size) (h : white s[k].toNat = false) (h2 : opens (sfx s k) = true) (h3 : (remark 0 (sfx s k)).2 = false) :
    lexF (n + 1) k (sfx s k) = [⟨7, k, k + (remark 0 (sfx s k)).1⟩] := by
  rw [sfx_cons hk] at h2 h3 ⊢
  rw [lexF, if_neg (nott h), if_pos h2, if_neg (nott h3)]
theorem lex_nothing {s : ByteArray} {k n : Nat} (hk : k < s.size) (h : white s[k].toNat = false) (h2 : opens (sfx s k) = false) (h3 : (token (sfx s k)).2 = 0) :
    lexF (n + 1) k (sfx s k) = ⟨7, k, k + (nothing (sfx s (k + 1)) + 1)⟩ :: lexF n (k + (nothing (sfx s (k + 1)) + 1)) (sfx s (k + (nothing (sfx s (k + 1)) + 1))) := by
  rw [← sfx_drop s k (nothing (sfx s (k + 1)) + 1)]
  have e := sfx_cons hk
  generalize sfx s (k + 1) = r at e ⊢
  rw [e] at h2 h3 ⊢
  rw [lexF, if_neg (nott h), if_neg (nott h2), if_pos h3]
theorem lex_token {s : ByteArray} {k n : Nat} (hk : k < s.size) (h : white s[k].toNat = false) (h2 : opens (sfx s k) = false) (h3 : ¬ (token (sfx s k)).2 = 0) :
    lexF (n + 1) k (sfx s k) = ⟨(token (sfx s k)).1, k, k + (token (sfx s k)).2⟩ :: lexF n (k + (token (sfx s k)).2) (sfx s (k + (token (sfx s k)).2)) := by
  rw [← sfx_drop s k]
  rw [sfx_cons hk] at h2 h3 ⊢
  rw [lexF, if_neg (nott h), if_neg (nott h2), if_neg h3]
theorem lexF_nil (n k : Nat) : lexF n k [] = [] := by cases n <;> rfl

/-- How a call of Lex ends. -/
def PostLex (s : ByteArray) (w : World) (e : Ending) (w' : World) : Prop := ∃ v, e = .returned v ∧ TL w w' v (lex s)
theorem TL.fin {s : ByteArray} {w w' : World} {v : Value} {l : List Tok} (h : TL w w' v l) (e : lex s = l) : PostLex s w (.returned v) w' := ⟨v, rfl, e ▸ h⟩

set_option maxHeartbeats 2000000 in
theorem lex_any (s : ByteArray) (hs : s.size ≤ most) (w : World) : Calls Try.prog 11 #[.string s] w (PostLex s w) := by
  have hs0 : s.size ≤ maxLen := by unfold most at hs; unfold maxLen; omega
  have hs1 : s.size ≤ 1000000000 := hs
  have hs' : (s.size : Int) ≤ 1000000000 := by omega
  generalize hPost : PostLex s w = Post
  have e0 := Sec.mk hPost
  clear hPost
  go_enter Try.func11, Try.ntmps11
  go_wp2_with fail
  go_step3
  go_wp2_with fail
  go_step3
  go_wp2_with fail
  go_loopg [3, 4, 5, 6, 7, 8] s.size (fun n v av _ _ _ _ wr => ∃ (l : List Tok) (k : Nat), TL w wr v l ∧ av = .int .i64 k ∧ Sec (s.size ≤ k + n) ∧ k ≤ s.size ∧ Sec (l.length ≤ k) ∧ Sec (lex s = l ++ lexF n k (sfx s k)))
  case atStart => exact ⟨[], 0, TL.nil w, rfl, ⟨by omega⟩, Nat.zero_le _, ⟨Nat.le_refl _⟩, ⟨rfl⟩⟩
  case round =>
    obtain ⟨l, k, hT, rfl, hn, hk, hl, hE⟩ := hrel
    obtain ⟨sa, sc, hv⟩ := hT.shape
    subst hv
    by_cases hlt : k < s.size
    · have hki : (k : Int) < (s.size : Int) := by omega
      have hk0 : (0 : Int) ≤ (k : Int) := by omega
      have ho := opens_any s k hs0 hlt
      cases gk with
      | zero => have := hn.out; omega
      | succ n =>
        cases h1 : white s[k].toNat with
        | true =>
          have e := Sec.mk (hE.out.trans (congrArg _ (lex_white (n := n) hlt h1)))
          clear hE ho
          go_wp2_with (refine (white_any _).use ?_)
          go_roundg n
          case measure => omega
          case rel => exact ⟨l, k + 1, hT, by rw [show ((k + 1 : Nat) : Int) = (k : Int) + 1 from by omega], ⟨by have := hn.out; omega⟩, by omega, ⟨by have := hl.out; omega⟩, e⟩
        | false =>
          cases h2 : opens (sfx s k) with
          | true =>
            rw [h2] at ho
            have hr := remark_any s k hs0 hk
            have hrl := sfx_le (remark_le 0 (sfx s k)) hk
            have h2' := opens_two h2
            have hr2 : 2 ≤ (remark 0 (sfx s k)).1 := by
              rw [rem_opens 0 h2]; simp
            cases h3 : (remark 0 (sfx s k)).2 with
            | true =>
              have e := Sec.mk (hE.out.trans (congrArg _ (lex_remark (n := n) hlt h1 h2 h3)))
              rw [h3] at hr
              generalize (remark 0 (sfx s k)).1 = rn at *
              clear hE
              go_wp2_with (first | refine (white_any _).use ?_ | refine ho.use ?_ | refine hr.use ?_)
              go_roundg n
              case measure => omega
              case rel => exact ⟨l, k + rn, hT, by rw [show ((k + rn : Nat) : Int) = (k : Int) + rn from by omega], ⟨by have := hn.out; omega⟩, by omega, ⟨by have := hl.out; omega⟩, e⟩
            | false =>
              have e := Sec.mk (hE.out.trans (congrArg _ (lex_open (n := n) hlt h1 h2 h3)))
              rw [h3] at hr
              generalize (remark 0 (sfx s k)).1 = rn at *
              clear hE
              rw [show (k : Int) + (rn : Int) = ((k + rn : Nat) : Int) from by omega] at hr
              go_wp2_with (first | refine (white_any _).use ?_ | refine ho.use ?_ | refine hr.use ?_ | (at_builtin; refine push_tok rfl _ _ rfl ⟨7, k, k + rn⟩ (by rfl) (by rfl) hT (by have := hl.out; unfold most; omega) ?_; intro v' w1 hT1))
              rw [← e0.out]
              exact hT1.fin e.out
          | false =>
            rw [h2] at ho
            have ht := token_any s k hs0 hlt
            have htl := sfx_le (token_le (sfx s k)) hk
            by_cases h3 : (token (sfx s k)).2 = 0
            · have e := Sec.mk (hE.out.trans (congrArg _ (lex_nothing (n := n) hlt h1 h2 h3)))
              have hz := nothing_any s k hs0 hlt
              have hzl := sfx_le (nothing_le (sfx s (k + 1))) (by omega)
              rw [h3] at ht
              generalize (token (sfx s k)).1 = tk at *
              generalize hm : nothing (sfx s (k + 1)) + 1 = m at *
              clear hE
              have hm1 : k + m ≤ s.size := by omega
              have hm2 : 1 ≤ m := by omega
              clear hm
              go_wp2_with (first | refine (white_any _).use ?_ | refine ho.use ?_ | refine ht.use ?_ | refine hz.use ?_ | (at_builtin; refine push_tok rfl _ _ rfl ⟨7, k, k + m⟩ (by rfl) (by rfl) hT (by have := hl.out; unfold most; omega) ?_; intro v' w1 hT1))
              go_roundg n
              case measure => omega
              case rel => exact ⟨_, k + m, hT1, by rw [show ((k + m : Nat) : Int) = (k : Int) + m from by omega], ⟨by have := hn.out; omega⟩, by omega, ⟨by have := hl.out; simp; omega⟩, ⟨by rw [e.out]; simp⟩⟩
            · have e := Sec.mk (hE.out.trans (congrArg _ (lex_token (n := n) hlt h1 h2 h3)))
              generalize hm : (token (sfx s k)).2 = m at *
              generalize (token (sfx s k)).1 = tk at *
              clear hE
              have hm2 : 1 ≤ m := by omega
              have hm3 : ¬ (m : Int) = 0 := by omega
              clear hm h3
              go_wp2_with (first | refine (white_any _).use ?_ | refine ho.use ?_ | refine ht.use ?_ | (at_builtin; refine push_tok rfl _ _ rfl ⟨tk, k, k + m⟩ (by rfl) (by rfl) hT (by have := hl.out; unfold most; omega) ?_; intro v' w1 hT1))
              go_roundg n
              case measure => omega
              case rel => exact ⟨_, k + m, hT1, by rw [show ((k + m : Nat) : Int) = (k : Int) + m from by omega], ⟨by have := hn.out; omega⟩, by omega, ⟨by have := hl.out; simp; omega⟩, ⟨by rw [e.out]; simp⟩⟩
    · have hki : ¬ (k : Int) < (s.size : Int) := by omega
      have e : Sec (lex s = l) := ⟨by rw [hE.out, sfx_nil (by omega : s.size ≤ k), lexF_nil, List.append_nil]⟩
      clear hE
      go_wp2_with fail
      rw [← e0.out]
      exact hT.fin e.out
end Go.Proofs.Ytkiijfgoaeiphaa
