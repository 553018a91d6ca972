/- Plain: the parser's functions are never stuck. No program in sight. -/
import Derived.Test.YtkiijfgoaeiphaaGd
import Derived.Test.YtkiijfgoaeiphaaGe
import Derived.ProofKit
import Derived.OpenShut
set_option linter.unusedVariables false
set_option linter.unusedSimpArgs false
set_option linter.unusedSectionVars false
namespace Go.Proofs.Ytkiijfgoaeiphaa

/-- m comes back with R, or with a fault. -/
def Ok {α : Type} (m : M α) (st : PSt) (R : α → PSt → Prop) : Prop :=
  match m st with
  | .ok a st' => R a st'
  | .bad _ => True
  | .stuck => False
theorem Ok.bind {α β : Type} {m : M α} {k : α → M β} {st : PSt} {R : β → PSt → Prop} (h : Ok m st fun a st' => Ok (k a) st' R) : Ok (M.bind m k) st R := by
  unfold Ok at h ⊢
  simp only [M.bind]
  cases hm : m st with
  | ok a st' => rw [hm] at h; exact h
  | bad f => trivial
  | stuck => rw [hm] at h; exact h
theorem Ok.mono {α : Type} {m : M α} {st : PSt} {R R' : α → PSt → Prop} (h : Ok m st R) (hr : ∀ a st', R a st' → R' a st') : Ok m st R' := by
  unfold Ok at h ⊢
  cases hm : m st with
  | ok a st' => rw [hm] at h; exact hr _ _ h
  | bad f => trivial
  | stuck => rw [hm] at h; exact h
theorem Ok.ret {α : Type} {a : α} {st : PSt} {R : α → PSt → Prop} (h : R a st) : Ok (M.ret a) st R := h
theorem Ok.here {α : Type} {m : M α} {a : α} {st st' : PSt} {R : α → PSt → Prop} (e : m st = .ok a st') (h : R a st') : Ok m st R := by
  unfold Ok; rw [e]; exact h
theorem Ok.same {α : Type} {m m' : M α} {st : PSt} {R : α → PSt → Prop} (e : m st = m' st) (h : Ok m' st R) : Ok m st R := by
  unfold Ok at h ⊢; rw [e]; exact h
theorem Ok.ifPos {α : Type} {c : PSt → Bool} {m m' : M α} {st : PSt} {R : α → PSt → Prop} (h : c st = true) (hm : Ok m st R) : Ok (fun st => if c st = true then m st else m' st) st R := by
  unfold Ok at hm ⊢; dsimp only; rw [if_pos h]; exact hm
theorem Ok.ifNeg {α : Type} {c : PSt → Bool} {m m' : M α} {st : PSt} {R : α → PSt → Prop} (h : ¬ c st = true) (hm : Ok m' st R) : Ok (fun st => if c st = true then m st else m' st) st R := by
  unfold Ok at hm ⊢; dsimp only; rw [if_neg h]; exact hm
theorem ok_fail {α : Type} {x : Txt} {c : Nat} {st : PSt} {R : α → PSt → Prop} : Ok (fail x c : M α) st R := by
  unfold Ok fail
  split
  · rename_i h; split at h <;> cases h
  · trivial
  · rename_i h; split at h <;> cases h
theorem Ok.ne {α : Type} {m : M α} {st : PSt} {R : α → PSt → Prop} (h : Ok m st R) : m st ≠ .stuck := by
  intro e; unfold Ok at h; rw [e] at h; exact h

section
variable (x : Txt) (B : Nat)
/-- The state is within bounds. -/
structure Inv (st : PSt) : Prop where
  pos : st.pos ≤ x.toks.length
  sum : st.nodes.length + 3 * x.toks.length ≤ B + 3 * st.pos
/-- From st to st': tokens read, nodes made, and c nodes are still to be had. -/
structure Step (c : Nat) (st st' : PSt) : Prop where
  pos : st.pos ≤ st'.pos
  len : st'.pos ≤ x.toks.length
  nodes : st.nodes.length ≤ st'.nodes.length
  sum : st'.nodes.length + 3 * st.pos + c ≤ st.nodes.length + 3 * st'.pos
/-- A function that reads a part and answers its node. -/
def NOk (m : M Nat) : Prop := ∀ st, Inv x B st → Ok m st fun k st' => Step x 2 st st' ∧ st.pos < st'.pos ∧ k < st'.nodes.length
end

section
variable {x : Txt} {B : Nat} (hB : B < most)
include hB
theorem ok_next {st : PSt} (h : st.pos < x.toks.length) {R : Tok → PSt → Prop} (hr : ∀ t, x.toks[st.pos]? = some t → R t ⟨st.pos + 1, st.nodes⟩) : Ok (next x) st R := by
  have e := List.getElem?_eq_getElem h
  refine Ok.here (a := x.toks[st.pos]) (st' := ⟨st.pos + 1, st.nodes⟩) ?_ (hr _ e)
  simp only [next, e]
theorem isW_lt {w : ByteArray} {st : PSt} (h : isW x w st = true) : st.pos < x.toks.length := by
  rcases Nat.lt_or_ge st.pos x.toks.length with h1 | h1
  · exact h1
  · simp only [isW] at h; rw [List.getElem?_eq_none h1] at h; cases h
theorem isK_lt {k : Nat} {st : PSt} (h : isK x k st = true) : st.pos < x.toks.length := by
  rcases Nat.lt_or_ge st.pos x.toks.length with h1 | h1
  · exact h1
  · simp only [isK] at h; rw [List.getElem?_eq_none h1] at h; cases h
theorem number_lt {st : PSt} (h : (number x st).2 = true) : st.pos < x.toks.length := by
  rcases Nat.lt_or_ge st.pos x.toks.length with h1 | h1
  · exact h1
  · simp only [number] at h; rw [List.getElem?_eq_none h1] at h; cases h
theorem ok_take {w : ByteArray} {st : PSt} {R : Tok → PSt → Prop} (hr : st.pos < x.toks.length → ∀ t, R t ⟨st.pos + 1, st.nodes⟩) : Ok (take x w) st R := by
  by_cases h : isW x w st = true
  · exact Ok.same (m' := next x) (by simp only [take, h, if_true]) (ok_next hB (isW_lt hB h) fun t _ => hr (isW_lt hB h) t)
  · exact Ok.same (m' := fail x 1) (by simp only [take, h]; rfl) ok_fail
theorem ok_takeKind {k : Nat} {st : PSt} {R : Tok → PSt → Prop} (hr : st.pos < x.toks.length → ∀ t, x.toks[st.pos]? = some t → t.kind = k → R t ⟨st.pos + 1, st.nodes⟩) : Ok (takeKind x k) st R := by
  by_cases h : isK x k st = true
  · refine Ok.same (m' := next x) (by simp only [takeKind, h, if_true]) (ok_next hB (isK_lt hB h) fun t ht => hr (isK_lt hB h) t ht ?_)
    simp only [isK, ht] at h
    exact beq_iff_eq.1 h
  · exact Ok.same (m' := fail x 1) (by simp only [takeKind, h]; rfl) ok_fail
theorem ok_skip {w : ByteArray} {st : PSt} {R : Bool → PSt → Prop} (h1 : st.pos < x.toks.length → R true ⟨st.pos + 1, st.nodes⟩) (h0 : R false st) : Ok (skip x w) st R := by
  by_cases h : isW x w st = true
  · exact Ok.here (a := true) (st' := ⟨st.pos + 1, st.nodes⟩) (by simp only [skip, h, if_true]) (h1 (isW_lt hB h))
  · exact Ok.here (a := false) (st' := st) (by simp only [skip, h]; rfl) h0
theorem ok_add {n : Nd} {st : PSt} {R : Nat → PSt → Prop} (h : st.nodes.length < most) (hr : R st.nodes.length ⟨st.pos, st.nodes ++ [n]⟩) : Ok (add n) st R :=
  Ok.here (a := st.nodes.length) (st' := ⟨st.pos, st.nodes ++ [n]⟩) (by simp only [add, h, if_true]) hr
theorem ok_from {k : Nat} {st : PSt} {R : Int → PSt → Prop} (h : k < st.nodes.length) (hr : ∀ f, R f st) : Ok (fromOf k) st R :=
  Ok.here (a := (st.nodes[k]).lo) (st' := st) (by simp only [fromOf, List.getElem?_eq_getElem h]) (hr _)
theorem ok_to {k : Nat} {st : PSt} {R : Int → PSt → Prop} (h : k < st.nodes.length) (hr : ∀ f, R f st) : Ok (toOf k) st R :=
  Ok.here (a := (st.nodes[k]).hi) (st' := st) (by simp only [toOf, List.getElem?_eq_getElem h]) (hr _)
theorem ok_leaf {kind num : Nat} {name : ByteArray} {t : Tok} {st : PSt} {R : Nat → PSt → Prop} (h : st.nodes.length < most) (hr : ∀ n, R st.nodes.length ⟨st.pos, st.nodes ++ [n]⟩) : Ok (leaf kind num name t) st R :=
  ok_add hB h (hr _)

/-- One token, one node. -/
theorem nok_leaf {st : PSt} (hi : Inv x B st) (h : st.pos < x.toks.length) {kind num : Nat} {nm : Tok → ByteArray} : Ok (M.bind (next x) fun t => leaf kind num (nm t) t) st fun k st' => Step x 2 st st' ∧ st.pos < st'.pos ∧ k < st'.nodes.length := by
  have := hi.sum
  refine Ok.bind (ok_next hB h fun t _ => ok_leaf hB (by show st.nodes.length < most; omega) fun n => ?_)
  exact ⟨⟨by simp, by simp; omega, by simp, by simp; omega⟩, by simp, by simp⟩
theorem nok_bind : NOk x B (bind x) := by
  intro st hi
  have := hi.sum
  refine Ok.bind (ok_takeKind hB fun h t _ _ => ok_leaf hB (by show st.nodes.length < most; omega) fun n => ?_)
  exact ⟨⟨by simp, by simp; omega, by simp, by simp; omega⟩, by simp, by simp⟩
theorem Inv.next' {c : Nat} {st st' : PSt} (hi : Inv x B st) (hs : Step x c st st') : Inv x B st' := ⟨hs.len, by have := hi.sum; have := hs.sum; omega⟩


theorem ok_bindsL : ∀ (n : Nat) (l : List Int) (st : PSt), Inv x B st → x.toks.length < st.pos + n → (∀ b ∈ l, b.toNat < st.nodes.length) →
    Ok (bindsL x n l) st fun l' st' => Inv x B st' ∧ l.length ≤ l'.length ∧ st.pos ≤ st'.pos ∧ st.nodes.length ≤ st'.nodes.length ∧ st'.nodes.length + 3 * st.pos + 2 * l'.length ≤ st.nodes.length + 3 * st'.pos + 2 * l.length ∧ ∀ b ∈ l', b.toNat < st'.nodes.length := by
  intro n
  induction n with
  | zero => intro l st hi hn _; have := hi.pos; omega
  | succ n ih =>
    intro l st hi hn hl
    by_cases h : isK x 1 st = true
    · refine Ok.same (m' := M.bind (bind x) fun b => bindsL x n (l ++ [(b : Int)])) (by simp only [bindsL, h, if_true]) (Ok.bind ((nok_bind hB st hi).mono ?_))
      rintro k st1 ⟨hs, hp, hk⟩
      refine (ih _ _ (hi.next' hB hs) (by omega) (fun b hb => ?_)).mono ?_
      · rcases List.mem_append.1 hb with hb | hb
        · exact Nat.lt_of_lt_of_le (hl b hb) hs.nodes
        · have : b = (k : Int) := by simpa using hb
          omega
      · rintro l' st' ⟨h1, h2, h3, h4, h5, h6⟩
        have := hs.sum
        have := hs.nodes
        exact ⟨h1, by first | omega | (simp only [List.length_append, List.length_cons, List.length_nil] at *; omega), by omega, by omega, by first | omega | (simp only [List.length_append, List.length_cons, List.length_nil] at *; omega), h6⟩
    · exact Ok.here (a := l) (st' := st) (by simp only [bindsL, h]; rfl) ⟨hi, Nat.le_refl _, Nat.le_refl _, Nat.le_refl _, Nat.le_refl _, hl⟩
theorem ok_binds {st : PSt} (hi : Inv x B st) {R : List Int → PSt → Prop} (hr : ∀ l' st', Inv x B st' → st.pos ≤ st'.pos → st.nodes.length ≤ st'.nodes.length → st'.nodes.length + 3 * st.pos + 2 * l'.length ≤ st.nodes.length + 3 * st'.pos → (∀ b ∈ l', b.toNat < st'.nodes.length) → R l' st') : Ok (binds x) st R :=
  (ok_bindsL hB _ [] st hi (by omega) (fun b hb => by simp at hb)).mono fun l' st' ⟨h1, h2, h3, h4, h5, h6⟩ => hr l' st' h1 h3 h4 (by simpa using h5) h6
theorem ok_wrapL (first : Option Nat) : ∀ (bs : List Int) (body : Nat) (st : PSt), (∀ b ∈ bs, b.toNat < st.nodes.length) → body < st.nodes.length → st.nodes.length + bs.length < most →
    Ok (wrapL first bs body) st fun k st' => st'.pos = st.pos ∧ st'.nodes.length = st.nodes.length + bs.length ∧ k < st'.nodes.length := by
  intro bs
  induction bs with
  | nil => intro body st _ hb _; exact Ok.ret ⟨rfl, rfl, hb⟩
  | cons b r ih =>
    intro body st hbs hb hm
    refine Ok.bind (ok_from hB (hbs b (by simp)) fun f => Ok.bind (ok_to hB hb fun t => Ok.bind (ok_add hB (by simp at hm; omega) ?_)))
    refine (ih _ _ (fun c hc => ?_) (by simp) (by simp at hm ⊢; omega)).mono ?_
    · have := hbs c (by simp [hc])
      simp; omega
    · rintro k st' ⟨h1, h2, h3⟩
      exact ⟨h1, by simp at h2 ⊢; omega, h3⟩
theorem ok_wrap {bs : List Int} {first : Option Nat} {body : Nat} {st : PSt} (h1 : ∀ b ∈ bs, b.toNat < st.nodes.length) (h2 : body < st.nodes.length) (h3 : st.nodes.length + bs.length < most) {R : Nat → PSt → Prop} (hr : ∀ k st', st'.pos = st.pos → st'.nodes.length = st.nodes.length + bs.length → k < st'.nodes.length → R k st') : Ok (wrap bs first body) st R :=
  (ok_wrapL hB first bs.reverse body st (fun b hb => h1 b (by simpa using hb)) h2 (by simpa using h3)).mono fun k st' ⟨a, b, c⟩ => hr k st' a (by simpa using b) c

theorem isOne_lt {signs : List ByteArray} {st : PSt} (h : isOne x signs st = true) : st.pos < x.toks.length := by
  simp only [isOne, List.any_eq_true] at h
  obtain ⟨w, _, h⟩ := h
  exact isW_lt hB h
theorem ok_operate {nm : ByteArray} {l r : Nat} {st : PSt} (h1 : l < st.nodes.length) (h2 : r < st.nodes.length) (h3 : st.nodes.length < most) {R : Nat → PSt → Prop} (hr : ∀ n, R st.nodes.length ⟨st.pos, st.nodes ++ [n]⟩) : Ok (operate nm l r) st R :=
  Ok.bind (ok_from hB h1 fun f => Ok.bind (ok_to hB h2 fun t => ok_add hB h3 (hr _)))
theorem ok_chainL {m : M Nat} (hm : NOk x B m) (signs : List ByteArray) : ∀ (n left : Nat) (st : PSt), Inv x B st → x.toks.length < st.pos + n → left < st.nodes.length → Ok (chainL x m signs n left) st fun k st' => Step x 0 st st' ∧ k < st'.nodes.length := by
  intro n
  induction n with
  | zero => intro left st hi hn _; have := hi.pos; omega
  | succ n ih =>
    intro left st hi hn hl
    by_cases h : isOne x signs st = true
    · have hlt := isOne_lt hB h
      refine Ok.same (m' := M.bind (next x) fun t => M.bind m fun right => M.bind (operate (wordOf x.s t) left right) fun k => chainL x m signs n k) (by simp only [chainL, h, if_true]) (Ok.bind (ok_next hB hlt fun t _ => Ok.bind ((hm _ ⟨by simp; omega, by have := hi.sum; simp; omega⟩).mono ?_)))
      rintro k st1 ⟨hs, hp, hk⟩
      have := hs.sum; have := hs.nodes; have := hs.len; have := hi.sum
      refine Ok.bind (ok_operate hB (by first | omega | (simp only [List.length_append, List.length_cons, List.length_nil] at *; omega)) hk (by first | omega | (simp only [List.length_append, List.length_cons, List.length_nil] at *; omega)) fun nd => ?_)
      refine (ih _ _ ⟨by first | omega | (simp only [List.length_append, List.length_cons, List.length_nil] at *; omega), by first | omega | (simp only [List.length_append, List.length_cons, List.length_nil] at *; omega)⟩ (by first | omega | (simp only [List.length_append, List.length_cons, List.length_nil] at *; omega)) (by first | omega | (simp only [List.length_append, List.length_cons, List.length_nil] at *; omega))).mono ?_
      rintro k' st' ⟨hs', hk'⟩
      have := hs'.sum; have := hs'.nodes; have := hs'.len; have := hs'.pos
      exact ⟨⟨by first | omega | (simp only [List.length_append, List.length_cons, List.length_nil] at *; omega), by first | omega | (simp only [List.length_append, List.length_cons, List.length_nil] at *; omega), by first | omega | (simp only [List.length_append, List.length_cons, List.length_nil] at *; omega), by first | omega | (simp only [List.length_append, List.length_cons, List.length_nil] at *; omega)⟩, hk'⟩
    · exact Ok.here (a := left) (st' := st) (by simp only [chainL, h]; rfl) ⟨⟨Nat.le_refl _, hi.pos, Nat.le_refl _, Nat.le_refl _⟩, hl⟩
theorem nok_chain {m : M Nat} (hm : NOk x B m) (signs : List ByteArray) : NOk x B (chain x m signs) := by
  intro st hi
  refine Ok.bind ((hm st hi).mono ?_)
  rintro k st1 ⟨hs, hp, hk⟩
  refine (ok_chainL hB hm signs _ _ _ (hi.next' hB hs) (by omega) hk).mono ?_
  rintro k' st' ⟨hs', hk'⟩
  have := hs.sum; have := hs.nodes; have := hs.len; have := hs.pos
  have := hs'.sum; have := hs'.nodes; have := hs'.len; have := hs'.pos
  exact ⟨⟨by omega, by omega, by omega, by omega⟩, by omega, hk'⟩

theorem ok_rowL {m : M Nat} (hm : NOk x B m) : ∀ (n : Nat) (l : List Int) (st : PSt), Inv x B st → x.toks.length < st.pos + n → Ok (rowL x m n l) st fun l' st' => Step x 0 st st' := by
  intro n
  induction n with
  | zero => intro l st hi hn; have := hi.pos; omega
  | succ n ih =>
    intro l st hi hn
    have := hi.sum
    refine Ok.bind (ok_skip hB (fun hlt => ?_) ?_)
    · refine Ok.same (m' := M.bind m fun k => rowL x m n (l ++ [(k : Int)])) rfl (Ok.bind ((hm _ ⟨by simp; omega, by simp; omega⟩).mono ?_))
      rintro k st1 ⟨hs, hp, hk⟩
      have := hs.sum; have := hs.nodes; have := hs.len
      refine (ih _ _ ⟨by first | omega | (simp only [List.length_append, List.length_cons, List.length_nil] at *; omega), by first | omega | (simp only [List.length_append, List.length_cons, List.length_nil] at *; omega)⟩ (by first | omega | (simp only [List.length_append, List.length_cons, List.length_nil] at *; omega))).mono ?_
      intro l' st' hs'
      have := hs'.sum; have := hs'.nodes; have := hs'.len; have := hs'.pos
      exact ⟨by first | omega | (simp only [List.length_append, List.length_cons, List.length_nil] at *; omega), by first | omega | (simp only [List.length_append, List.length_cons, List.length_nil] at *; omega), by first | omega | (simp only [List.length_append, List.length_cons, List.length_nil] at *; omega), by first | omega | (simp only [List.length_append, List.length_cons, List.length_nil] at *; omega)⟩
    · exact Ok.ret ⟨Nat.le_refl _, hi.pos, Nat.le_refl _, Nat.le_refl _⟩
theorem nok_brackets {m : M Nat} (hm : NOk x B m) (u tu : Nat) : NOk x B (brackets x u tu m) := by
  intro st hi
  have := hi.sum
  refine Ok.bind (ok_take hB fun hlt t0 => ?_)
  by_cases h : isW x ⟨#[41]⟩ ⟨st.pos + 1, st.nodes⟩ = true
  · refine Ok.same (if_pos h) (Ok.bind (ok_next hB (isW_lt hB h) fun t _ => ok_add hB (by first | omega | (simp only [List.length_append, List.length_cons, List.length_nil] at *; omega)) ?_))
    have := isW_lt hB h
    refine ⟨⟨?_, ?_, ?_, ?_⟩, ?_, ?_⟩ <;> first | omega | (simp only [List.length_append, List.length_cons, List.length_nil] at *; omega)
  · refine Ok.same (if_neg h) (Ok.bind ((hm _ ⟨by first | omega | (simp only [List.length_append, List.length_cons, List.length_nil] at *; omega), by first | omega | (simp only [List.length_append, List.length_cons, List.length_nil] at *; omega)⟩).mono ?_))
    rintro k st1 ⟨hs, hp, hk⟩
    have := hs.sum; have := hs.nodes; have := hs.len
    refine Ok.bind ((ok_rowL hB hm _ _ _ ⟨by first | omega | (simp only [List.length_append, List.length_cons, List.length_nil] at *; omega), by first | omega | (simp only [List.length_append, List.length_cons, List.length_nil] at *; omega)⟩ (by first | omega | (simp only [List.length_append, List.length_cons, List.length_nil] at *; omega))).mono ?_)
    intro l' st2 hs'
    have := hs'.sum; have := hs'.nodes; have := hs'.len; have := hs'.pos
    refine Ok.bind (ok_take hB fun hlt2 t => ?_)
    by_cases h1 : l'.length = 1
    · refine Ok.same (m' := M.ret k) (by rw [if_pos h1]) (Ok.ret ?_)
      refine ⟨⟨?_, ?_, ?_, ?_⟩, ?_, ?_⟩ <;> first | omega | (simp only [List.length_append, List.length_cons, List.length_nil] at *; omega)
    · refine Ok.same (m' := add _) (by rw [if_neg h1]) (ok_add hB (by first | omega | (simp only [List.length_append, List.length_cons, List.length_nil] at *; omega)) ?_)
      refine ⟨⟨?_, ?_, ?_, ?_⟩, ?_, ?_⟩ <;> first | omega | (simp only [List.length_append, List.length_cons, List.length_nil] at *; omega)

theorem nok_atom {E : M Nat} (hE : NOk x B E) : NOk x B (atom x E) := by
  intro st hi
  by_cases h0 : atomBegins x st = true
  · refine Ok.ifPos h0 ?_
    by_cases h1 : (number x st).2 = true
    · exact Ok.ifPos h1 (nok_leaf hB hi (number_lt hB h1))
    refine Ok.ifNeg h1 ?_
    by_cases h2 : isK x 1 st = true
    · exact Ok.ifPos h2 (nok_leaf hB hi (isK_lt hB h2))
    refine Ok.ifNeg h2 ?_
    by_cases h3 : isK x 2 st = true
    · exact Ok.ifPos h3 (nok_leaf hB hi (isK_lt hB h3))
    refine Ok.ifNeg h3 ?_
    by_cases h4 : isW x ⟨#[116, 114, 117, 101]⟩ st = true
    · exact Ok.ifPos h4 (nok_leaf hB hi (isW_lt hB h4))
    refine Ok.ifNeg h4 ?_
    by_cases h5 : isW x ⟨#[102, 97, 108, 115, 101]⟩ st = true
    · exact Ok.ifPos h5 (nok_leaf hB hi (isW_lt hB h5))
    exact Ok.ifNeg h5 (nok_brackets hB hE 9 10 st hi)
  · exact Ok.ifNeg h0 ok_fail
theorem nok_closed {P : M Nat} (hP : NOk x B P) : NOk x B (closed x P) := by
  intro st hi
  by_cases h0 : closedBegins x st = true
  · refine Ok.ifPos h0 ?_
    by_cases h1 : (number x st).2 = true
    · exact Ok.ifPos h1 (nok_leaf hB hi (number_lt hB h1))
    refine Ok.ifNeg h1 ?_
    by_cases h2 : isK x 1 st = true
    · exact Ok.ifPos h2 (nok_bind hB st hi)
    refine Ok.ifNeg h2 ?_
    by_cases h3 : isK x 2 st = true
    · exact Ok.ifPos h3 (nok_leaf hB hi (isK_lt hB h3))
    refine Ok.ifNeg h3 ?_
    by_cases h6 : isW x ⟨#[95]⟩ st = true
    · exact Ok.ifPos h6 (nok_leaf hB hi (isW_lt hB h6))
    refine Ok.ifNeg h6 ?_
    by_cases h4 : isW x ⟨#[116, 114, 117, 101]⟩ st = true
    · exact Ok.ifPos h4 (nok_leaf hB hi (isW_lt hB h4))
    refine Ok.ifNeg h4 ?_
    by_cases h5 : isW x ⟨#[102, 97, 108, 115, 101]⟩ st = true
    · exact Ok.ifPos h5 (nok_leaf hB hi (isW_lt hB h5))
    exact Ok.ifNeg h5 (nok_brackets hB hP 21 22 st hi)
  · exact Ok.ifNeg h0 ok_fail
theorem nok_pat : ∀ k, NOk x B (patK x k) := by
  intro k
  induction k with
  | zero => intro st hi; exact ok_fail
  | succ k ih =>
    intro st hi
    have := hi.sum
    by_cases h0 : isK x 2 st = true
    · have hlt := isK_lt hB h0
      refine Ok.same (if_pos h0) (Ok.bind (ok_next hB hlt fun t _ => ?_))
      by_cases h1 : closedBegins x ⟨st.pos + 1, st.nodes⟩ = true
      · refine Ok.same (if_pos h1) (Ok.bind ((nok_closed hB ih _ ⟨by first | omega | (simp only [List.length_append, List.length_cons, List.length_nil] at *; omega), by first | omega | (simp only [List.length_append, List.length_cons, List.length_nil] at *; omega)⟩).mono ?_))
        rintro k st1 ⟨hs, hp, hk⟩
        have := hs.sum; have := hs.nodes; have := hs.len
        refine Ok.bind (ok_to hB hk fun e => ok_add hB (by first | omega | (simp only [List.length_append, List.length_cons, List.length_nil] at *; omega)) ?_)
        refine ⟨⟨?_, ?_, ?_, ?_⟩, ?_, ?_⟩ <;> first | omega | (simp only [List.length_append, List.length_cons, List.length_nil] at *; omega)
      · refine Ok.same (if_neg h1) (ok_add hB (by first | omega | (simp only [List.length_append, List.length_cons, List.length_nil] at *; omega)) ?_)
        refine ⟨⟨?_, ?_, ?_, ?_⟩, ?_, ?_⟩ <;> first | omega | (simp only [List.length_append, List.length_cons, List.length_nil] at *; omega)
    · exact Ok.same (if_neg h0) (nok_closed hB ih st hi)
theorem ok_applyL {E : M Nat} (hE : NOk x B E) : ∀ (n left : Nat) (st : PSt), Inv x B st → x.toks.length < st.pos + n → left < st.nodes.length → Ok (applyL x E n left) st fun k st' => Step x 0 st st' ∧ k < st'.nodes.length := by
  intro n
  induction n with
  | zero => intro left st hi hn _; have := hi.pos; omega
  | succ n ih =>
    intro left st hi hn hl
    by_cases h : atomBegins x st = true
    · refine Ok.same (m' := M.bind (atom x E) fun right => M.bind (fromOf left) fun f => M.bind (toOf right) fun t => M.bind (add ⟨11, f, t, 0, ⟨#[]⟩, [(left : Int), (right : Int)]⟩) fun k => applyL x E n k) (by simp only [applyL, h, if_true]) (Ok.bind ((nok_atom hB hE st hi).mono ?_))
      rintro k st1 ⟨hs, hp, hk⟩
      have := hs.sum; have := hs.nodes; have := hs.len; have := hi.sum
      refine Ok.bind (ok_from hB (by omega) fun f => Ok.bind (ok_to hB hk fun t => Ok.bind (ok_add hB (by omega) ?_)))
      refine (ih _ _ ⟨by first | omega | (simp only [List.length_append, List.length_cons, List.length_nil] at *; omega), by first | omega | (simp only [List.length_append, List.length_cons, List.length_nil] at *; omega)⟩ (by first | omega | (simp only [List.length_append, List.length_cons, List.length_nil] at *; omega)) (by first | omega | (simp only [List.length_append, List.length_cons, List.length_nil] at *; omega))).mono ?_
      rintro k' st' ⟨hs', hk'⟩
      have := hs'.sum; have := hs'.nodes; have := hs'.len; have := hs'.pos
      exact ⟨⟨by first | omega | (simp only [List.length_append, List.length_cons, List.length_nil] at *; omega), by first | omega | (simp only [List.length_append, List.length_cons, List.length_nil] at *; omega), by first | omega | (simp only [List.length_append, List.length_cons, List.length_nil] at *; omega), by first | omega | (simp only [List.length_append, List.length_cons, List.length_nil] at *; omega)⟩, hk'⟩
    · exact Ok.here (a := left) (st' := st) (by simp only [applyL, h]; rfl) ⟨⟨Nat.le_refl _, hi.pos, Nat.le_refl _, Nat.le_refl _⟩, hl⟩
theorem nok_apply {E : M Nat} (hE : NOk x B E) : NOk x B (apply x E) := by
  intro st hi
  refine Ok.bind ((nok_atom hB hE st hi).mono ?_)
  rintro k st1 ⟨hs, hp, hk⟩
  refine (ok_applyL hB hE _ _ _ (hi.next' hB hs) (by omega) hk).mono ?_
  rintro k' st' ⟨hs', hk'⟩
  have := hs.sum; have := hs.nodes; have := hs.len; have := hs.pos
  have := hs'.sum; have := hs'.nodes; have := hs'.len; have := hs'.pos
  exact ⟨⟨by omega, by omega, by omega, by omega⟩, by omega, hk'⟩
theorem nok_sum {E : M Nat} (hE : NOk x B E) : NOk x B (sum x E) := nok_chain hB (nok_chain hB (nok_apply hB hE) _) _
theorem nok_compare {E : M Nat} (hE : NOk x B E) : NOk x B (compare x E) := by
  intro st hi
  refine Ok.bind ((nok_sum hB hE st hi).mono ?_)
  rintro k st1 ⟨hs, hp, hk⟩
  have := hs.sum; have := hs.nodes; have := hs.len; have := hi.sum
  by_cases h : (isW x ⟨#[61]⟩ st1 || isW x ⟨#[60]⟩ st1) = true
  · have hlt : st1.pos < x.toks.length := by
      rcases Bool.or_eq_true _ _ ▸ h with h | h
      · exact isW_lt hB h
      · exact isW_lt hB h
    refine Ok.same (if_pos h) (Ok.bind (ok_next hB hlt fun t _ => Ok.bind ((nok_sum hB hE _ ⟨by first | omega | (simp only [List.length_append, List.length_cons, List.length_nil] at *; omega), by first | omega | (simp only [List.length_append, List.length_cons, List.length_nil] at *; omega)⟩).mono ?_)))
    rintro r st2 ⟨hs2, hp2, hk2⟩
    have := hs2.sum; have := hs2.nodes; have := hs2.len
    refine ok_operate hB (by first | omega | (simp only [List.length_append, List.length_cons, List.length_nil] at *; omega)) hk2 (by first | omega | (simp only [List.length_append, List.length_cons, List.length_nil] at *; omega)) fun n => ?_
    refine ⟨⟨?_, ?_, ?_, ?_⟩, ?_, ?_⟩ <;> first | omega | (simp only [List.length_append, List.length_cons, List.length_nil] at *; omega)
  · exact Ok.here (a := k) (st' := st1) (by rw [if_neg h]) ⟨hs, hp, hk⟩
theorem nok_function {E : M Nat} (hE : NOk x B E) : NOk x B (function x E) := by
  intro st hi
  have := hi.sum
  refine Ok.bind (ok_take hB fun hlt t0 => Ok.bind ((nok_bind hB _ ⟨by first | omega | (simp only [List.length_append, List.length_cons, List.length_nil] at *; omega), by first | omega | (simp only [List.length_append, List.length_cons, List.length_nil] at *; omega)⟩).mono ?_))
  rintro b st1 ⟨hs, hp, hk⟩
  have := hs.sum; have := hs.nodes; have := hs.len
  refine Ok.bind (ok_binds hB ⟨by first | omega | (simp only [List.length_append, List.length_cons, List.length_nil] at *; omega), by first | omega | (simp only [List.length_append, List.length_cons, List.length_nil] at *; omega)⟩ fun l st2 hi2 p2 n2 s2 v2 => Ok.bind (ok_take hB fun hlt2 t => Ok.bind ((hE _ ⟨by first | omega | (simp only [List.length_append, List.length_cons, List.length_nil] at *; omega), by have := hi2.sum; first | omega | (simp only [List.length_append, List.length_cons, List.length_nil] at *; omega)⟩).mono ?_)))
  rintro body st3 ⟨hs3, hp3, hk3⟩
  have := hs3.sum; have := hs3.nodes; have := hs3.len; have := hi2.sum
  refine ok_wrap hB (fun c hc => ?_) hk3 (by first | omega | (simp only [List.length_append, List.length_cons, List.length_nil] at *; omega)) fun k st4 e1 e2 e3 => ?_
  · rcases List.mem_cons.1 hc with rfl | hc
    · first | omega | (simp only [List.length_append, List.length_cons, List.length_nil] at *; omega)
    · have := v2 c hc; first | omega | (simp only [List.length_append, List.length_cons, List.length_nil] at *; omega)
  · refine ⟨⟨?_, ?_, ?_, ?_⟩, ?_, ?_⟩ <;> first | omega | (simp only [List.length_append, List.length_cons, List.length_nil] at *; omega)
theorem ok_rec {st : PSt} (hi : st.pos ≤ x.toks.length) {R : Nat → PSt → Prop} (hr : ∀ n p, st.pos ≤ p → p ≤ x.toks.length → R n ⟨p, st.nodes⟩) : Ok (recM x) st R :=
  Ok.bind (ok_skip hB (fun h => Ok.ret (hr _ _ (Nat.le_succ _) h)) (Ok.ret (hr _ _ (Nat.le_refl _) hi)))
theorem nok_letIn {E : M Nat} (hE : NOk x B E) : NOk x B (letIn x E) := by
  intro st hi
  have := hi.sum
  refine Ok.bind (ok_take hB fun hlt t0 => Ok.bind (ok_rec hB (by first | omega | (simp only [List.length_append, List.length_cons, List.length_nil] at *; omega)) fun r p hp1 hp2 => Ok.bind ((nok_bind hB _ ⟨by first | omega | (simp only [List.length_append, List.length_cons, List.length_nil] at *; omega), by first | omega | (simp only [List.length_append, List.length_cons, List.length_nil] at *; omega)⟩).mono ?_)))
  rintro b st1 ⟨hs, hp, hk⟩
  have := hs.sum; have := hs.nodes; have := hs.len
  refine Ok.bind (ok_binds hB ⟨by first | omega | (simp only [List.length_append, List.length_cons, List.length_nil] at *; omega), by first | omega | (simp only [List.length_append, List.length_cons, List.length_nil] at *; omega)⟩ fun l st2 hi2 p2 n2 s2 v2 => Ok.bind (ok_take hB fun hlt2 t => Ok.bind ((hE _ ⟨by first | omega | (simp only [List.length_append, List.length_cons, List.length_nil] at *; omega), by have := hi2.sum; first | omega | (simp only [List.length_append, List.length_cons, List.length_nil] at *; omega)⟩).mono ?_)))
  rintro body st3 ⟨hs3, hp3, hk3⟩
  have := hs3.sum; have := hs3.nodes; have := hs3.len; have := hi2.sum
  refine Ok.bind (ok_wrap hB (fun c hc => by have := v2 c hc; first | omega | (simp only [List.length_append, List.length_cons, List.length_nil] at *; omega)) hk3 (by first | omega | (simp only [List.length_append, List.length_cons, List.length_nil] at *; omega)) fun k st4 e1 e2 e3 => Ok.bind (ok_take hB fun hlt4 t4 => Ok.bind ((hE _ ⟨by first | omega | (simp only [List.length_append, List.length_cons, List.length_nil] at *; omega), by first | omega | (simp only [List.length_append, List.length_cons, List.length_nil] at *; omega)⟩).mono ?_)))
  rintro body2 st5 ⟨hs5, hp5, hk5⟩
  have := hs5.sum; have := hs5.nodes; have := hs5.len
  refine Ok.bind (ok_to hB hk5 fun e => ok_add hB (by first | omega | (simp only [List.length_append, List.length_cons, List.length_nil] at *; omega)) ?_)
  refine ⟨⟨?_, ?_, ?_, ?_⟩, ?_, ?_⟩ <;> first | omega | (simp only [List.length_append, List.length_cons, List.length_nil] at *; omega)
theorem nok_choice {E : M Nat} (hE : NOk x B E) : NOk x B (choice x E) := by
  intro st hi
  have := hi.sum
  refine Ok.bind (ok_take hB fun hlt t0 => Ok.bind ((hE _ ⟨by first | omega | (simp only [List.length_append, List.length_cons, List.length_nil] at *; omega), by first | omega | (simp only [List.length_append, List.length_cons, List.length_nil] at *; omega)⟩).mono ?_))
  rintro a st1 ⟨hs1, hp1, hk1⟩
  have := hs1.sum; have := hs1.nodes; have := hs1.len
  refine Ok.bind (ok_take hB fun hlt1 t1 => Ok.bind ((hE _ ⟨by first | omega | (simp only [List.length_append, List.length_cons, List.length_nil] at *; omega), by first | omega | (simp only [List.length_append, List.length_cons, List.length_nil] at *; omega)⟩).mono ?_))
  rintro b st2 ⟨hs2, hp2, hk2⟩
  have := hs2.sum; have := hs2.nodes; have := hs2.len
  refine Ok.bind (ok_take hB fun hlt2 t2 => Ok.bind ((hE _ ⟨by first | omega | (simp only [List.length_append, List.length_cons, List.length_nil] at *; omega), by first | omega | (simp only [List.length_append, List.length_cons, List.length_nil] at *; omega)⟩).mono ?_))
  rintro c st3 ⟨hs3, hp3, hk3⟩
  have := hs3.sum; have := hs3.nodes; have := hs3.len
  refine Ok.bind (ok_to hB hk3 fun e => ok_add hB (by first | omega | (simp only [List.length_append, List.length_cons, List.length_nil] at *; omega)) ?_)
  refine ⟨⟨?_, ?_, ?_, ?_⟩, ?_, ?_⟩ <;> first | omega | (simp only [List.length_append, List.length_cons, List.length_nil] at *; omega)
theorem nok_arm {E P : M Nat} (hE : NOk x B E) (hP : NOk x B P) : NOk x B (arm x E P) := by
  intro st hi
  have := hi.sum
  refine Ok.bind ((hP _ hi).mono ?_)
  rintro a st1 ⟨hs1, hp1, hk1⟩
  have := hs1.sum; have := hs1.nodes; have := hs1.len
  refine Ok.bind (ok_take hB fun hlt1 t1 => Ok.bind ((hE _ ⟨by first | omega | (simp only [List.length_append, List.length_cons, List.length_nil] at *; omega), by first | omega | (simp only [List.length_append, List.length_cons, List.length_nil] at *; omega)⟩).mono ?_))
  rintro b st2 ⟨hs2, hp2, hk2⟩
  have := hs2.sum; have := hs2.nodes; have := hs2.len
  refine Ok.bind (ok_from hB (by first | omega | (simp only [List.length_append, List.length_cons, List.length_nil] at *; omega)) fun f => Ok.bind (ok_to hB hk2 fun e => ok_add hB (by first | omega | (simp only [List.length_append, List.length_cons, List.length_nil] at *; omega)) ?_))
  refine ⟨⟨?_, ?_, ?_, ?_⟩, ?_, ?_⟩ <;> first | omega | (simp only [List.length_append, List.length_cons, List.length_nil] at *; omega)
theorem last_snoc (l : List Int) (k : Nat) : lastOf (l ++ [(k : Int)]) = k := by simp [lastOf]
theorem ok_armsL {E P : M Nat} (hE : NOk x B E) (hP : NOk x B P) : ∀ (n : Nat) (l : List Int) (st : PSt), Inv x B st → x.toks.length < st.pos + n → Ok (armsL x E P n l) st fun l' st' => Step x 0 st st' ∧ lastOf l' < st'.nodes.length := by
  intro n
  induction n with
  | zero => intro l st hi hn; have := hi.pos; omega
  | succ n ih =>
    intro l st hi hn
    have := hi.sum
    refine Ok.bind ((nok_arm hB hE hP _ hi).mono ?_)
    rintro k st1 ⟨hs, hp, hk⟩
    have := hs.sum; have := hs.nodes; have := hs.len
    refine Ok.bind (ok_skip hB (fun hlt => ?_) ?_)
    · refine (ih _ _ ⟨by first | omega | (simp only [List.length_append, List.length_cons, List.length_nil] at *; omega), by first | omega | (simp only [List.length_append, List.length_cons, List.length_nil] at *; omega)⟩ (by first | omega | (simp only [List.length_append, List.length_cons, List.length_nil] at *; omega))).mono ?_
      rintro l' st' ⟨hs', hl'⟩
      have := hs'.sum; have := hs'.nodes; have := hs'.len; have := hs'.pos
      exact ⟨⟨by first | omega | (simp only [List.length_append, List.length_cons, List.length_nil] at *; omega), by first | omega | (simp only [List.length_append, List.length_cons, List.length_nil] at *; omega), by first | omega | (simp only [List.length_append, List.length_cons, List.length_nil] at *; omega), by first | omega | (simp only [List.length_append, List.length_cons, List.length_nil] at *; omega)⟩, hl'⟩
    · exact Ok.ret ⟨⟨hs.pos, hs.len, hs.nodes, by omega⟩, by rw [last_snoc hB]; exact hk⟩
theorem nok_match {E P : M Nat} (hE : NOk x B E) (hP : NOk x B P) : NOk x B (matchM x E P) := by
  intro st hi
  have := hi.sum
  refine Ok.bind (ok_take hB fun hlt t0 => Ok.bind ((hE _ ⟨by first | omega | (simp only [List.length_append, List.length_cons, List.length_nil] at *; omega), by first | omega | (simp only [List.length_append, List.length_cons, List.length_nil] at *; omega)⟩).mono ?_))
  rintro a st1 ⟨hs1, hp1, hk1⟩
  have := hs1.sum; have := hs1.nodes; have := hs1.len
  have rest : ∀ p, st1.pos + 1 ≤ p → p ≤ x.toks.length → Ok (M.bind (armsL x E P (x.toks.length + 1) [(a : Int)]) fun kids => M.bind (toOf (lastOf kids)) fun t => add ⟨15, t0.lo, t, 0, ⟨#[]⟩, kids⟩) ⟨p, st1.nodes⟩ fun k st' => Step x 2 st st' ∧ st.pos < st'.pos ∧ k < st'.nodes.length := by
    intro p h1 h2
    refine Ok.bind ((ok_armsL hB hE hP _ _ _ ⟨h2, by first | omega | (simp only [List.length_append, List.length_cons, List.length_nil] at *; omega)⟩ (by first | omega | (simp only [List.length_append, List.length_cons, List.length_nil] at *; omega))).mono ?_)
    rintro l st3 ⟨hs3, hl3⟩
    have := hs3.sum; have := hs3.nodes; have := hs3.len; have := hs3.pos
    refine Ok.bind (ok_to hB hl3 fun e => ok_add hB (by first | omega | (simp only [List.length_append, List.length_cons, List.length_nil] at *; omega)) ?_)
    refine ⟨⟨?_, ?_, ?_, ?_⟩, ?_, ?_⟩ <;> first | omega | (simp only [List.length_append, List.length_cons, List.length_nil] at *; omega)
  refine Ok.bind (ok_take hB fun hlt1 t1 => Ok.bind (ok_skip hB (fun hlt2 => ?_) ?_))
  · exact rest _ (by first | omega | (simp only [List.length_append, List.length_cons, List.length_nil] at *; omega)) (by first | omega | (simp only [List.length_append, List.length_cons, List.length_nil] at *; omega))
  · exact rest _ (by first | omega | (simp only [List.length_append, List.length_cons, List.length_nil] at *; omega)) (by first | omega | (simp only [List.length_append, List.length_cons, List.length_nil] at *; omega))
theorem nok_expr : ∀ k, NOk x B (exprK x k) := by
  intro k
  induction k with
  | zero => intro st hi; exact ok_fail
  | succ k ih =>
    intro st hi
    by_cases h1 : isW x ⟨#[102, 117, 110]⟩ st = true
    · exact Ok.ifPos h1 (nok_function hB ih st hi)
    refine Ok.ifNeg h1 ?_
    by_cases h2 : isW x ⟨#[108, 101, 116]⟩ st = true
    · exact Ok.ifPos h2 (nok_letIn hB ih st hi)
    refine Ok.ifNeg h2 ?_
    by_cases h3 : isW x ⟨#[105, 102]⟩ st = true
    · exact Ok.ifPos h3 (nok_choice hB ih st hi)
    refine Ok.ifNeg h3 ?_
    by_cases h4 : isW x ⟨#[109, 97, 116, 99, 104]⟩ st = true
    · exact Ok.ifPos h4 (nok_match hB ih (nok_pat hB k) st hi)
    exact Ok.ifNeg h4 (nok_compare hB ih st hi)
end
end Go.Proofs.Ytkiijfgoaeiphaa

/- Plain: the parser is never stuck: types, declarations, the whole. -/
set_option linter.unusedVariables false
set_option linter.unusedSimpArgs false
set_option linter.unusedSectionVars false
namespace Go.Proofs.Ytkiijfgoaeiphaa
/-- A tick's token has bytes. -/
def TicksOk (x : Txt) : Prop := ∀ t ∈ x.toks, t.kind = 4 → 0 < (wordOf x.s t).size
section
variable {x : Txt} {B : Nat} (hB : B < most) (hT : TicksOk x)
include hB hT
theorem nok_tick : NOk x B (tick x) := by
  intro st hi
  have := hi.sum
  refine Ok.bind (ok_takeKind hB fun h t ht hk => ?_)
  refine Ok.same (m' := leaf 24 0 ((wordOf x.s t).extract 1 (wordOf x.s t).size) t) (by rw [if_pos (hT t (List.mem_of_getElem? ht) hk)]) (ok_leaf hB (by first | omega | (simp only [List.length_append, List.length_cons, List.length_nil] at *; omega)) fun n => ?_)
  refine ⟨⟨?_, ?_, ?_, ?_⟩, ?_, ?_⟩ <;> first | omega | (simp only [List.length_append, List.length_cons, List.length_nil] at *; omega)
theorem nok_namedFirst {T : M Nat} (hm : NOk x B T) : NOk x B (namedFirst x T) := by
  intro st hi
  have := hi.sum
  by_cases h1 : isK x 4 st = true
  · exact Ok.ifPos h1 (nok_tick hB hT st hi)
  refine Ok.ifNeg h1 ?_
  by_cases h2 : isK x 1 st = true
  · exact Ok.ifPos h2 (nok_leaf hB hi (isK_lt hB h2))
  refine Ok.ifNeg h2 (Ok.bind (ok_take hB fun hlt t0 => Ok.bind ((hm _ ⟨by first | omega | (simp only [List.length_append, List.length_cons, List.length_nil] at *; omega), by first | omega | (simp only [List.length_append, List.length_cons, List.length_nil] at *; omega)⟩).mono ?_)))
  rintro k st1 ⟨hs, hp, hk⟩
  have := hs.sum; have := hs.nodes; have := hs.len
  refine Ok.bind ((ok_rowL hB hm _ _ _ ⟨by first | omega | (simp only [List.length_append, List.length_cons, List.length_nil] at *; omega), by first | omega | (simp only [List.length_append, List.length_cons, List.length_nil] at *; omega)⟩ (by first | omega | (simp only [List.length_append, List.length_cons, List.length_nil] at *; omega))).mono ?_)
  intro l' st2 hs'
  have := hs'.sum; have := hs'.nodes; have := hs'.len; have := hs'.pos
  refine Ok.bind (ok_take hB fun hlt2 t => ?_)
  by_cases h1 : l'.length = 1
  · refine Ok.same (m' := M.ret k) (by rw [if_pos h1]) (Ok.ret ?_)
    refine ⟨⟨?_, ?_, ?_, ?_⟩, ?_, ?_⟩ <;> first | omega | (simp only [List.length_append, List.length_cons, List.length_nil] at *; omega)
  · refine Ok.same (m' := M.bind (takeKind x 1) fun t => add ⟨25, t0.lo, t.hi, 0, wordOf x.s t, l'⟩) (by rw [if_neg h1]) (Ok.bind (ok_takeKind hB fun hlt3 t3 _ _ => ok_add hB (by first | omega | (simp only [List.length_append, List.length_cons, List.length_nil] at *; omega)) ?_))
    refine ⟨⟨?_, ?_, ?_, ?_⟩, ?_, ?_⟩ <;> first | omega | (simp only [List.length_append, List.length_cons, List.length_nil] at *; omega)
theorem ok_namedL : ∀ (n left : Nat) (st : PSt), Inv x B st → x.toks.length < st.pos + n → left < st.nodes.length → Ok (namedL x n left) st fun k st' => Step x 0 st st' ∧ k < st'.nodes.length := by
  intro n
  induction n with
  | zero => intro left st hi hn _; have := hi.pos; omega
  | succ n ih =>
    intro left st hi hn hl
    have := hi.sum
    by_cases h : isK x 1 st = true
    · have hlt := isK_lt hB h
      refine Ok.ifPos h (Ok.bind (ok_next hB hlt fun t _ => Ok.bind (ok_from hB (by first | omega | (simp only [List.length_append, List.length_cons, List.length_nil] at *; omega)) fun f => Ok.bind (ok_add hB (by first | omega | (simp only [List.length_append, List.length_cons, List.length_nil] at *; omega)) ?_))))
      refine (ih _ _ ⟨by first | omega | (simp only [List.length_append, List.length_cons, List.length_nil] at *; omega), by first | omega | (simp only [List.length_append, List.length_cons, List.length_nil] at *; omega)⟩ (by first | omega | (simp only [List.length_append, List.length_cons, List.length_nil] at *; omega)) (by first | omega | (simp only [List.length_append, List.length_cons, List.length_nil] at *; omega))).mono ?_
      rintro k' st' ⟨hs', hk'⟩
      have := hs'.sum; have := hs'.nodes; have := hs'.len; have := hs'.pos
      exact ⟨⟨by first | omega | (simp only [List.length_append, List.length_cons, List.length_nil] at *; omega), by first | omega | (simp only [List.length_append, List.length_cons, List.length_nil] at *; omega), by first | omega | (simp only [List.length_append, List.length_cons, List.length_nil] at *; omega), by first | omega | (simp only [List.length_append, List.length_cons, List.length_nil] at *; omega)⟩, hk'⟩
    · exact Ok.here (a := left) (st' := st) (by simp only [namedL, h]; rfl) ⟨⟨Nat.le_refl _, hi.pos, Nat.le_refl _, Nat.le_refl _⟩, hl⟩
theorem nok_named {T : M Nat} (hm : NOk x B T) : NOk x B (named x T) := by
  intro st hi
  refine Ok.bind ((nok_namedFirst hB hT hm st hi).mono ?_)
  rintro k st1 ⟨hs, hp, hk⟩
  refine (ok_namedL hB hT _ _ _ (hi.next' hB hs) (by omega) hk).mono ?_
  rintro k' st' ⟨hs', hk'⟩
  have := hs.sum; have := hs.nodes; have := hs.len; have := hs.pos
  have := hs'.sum; have := hs'.nodes; have := hs'.len; have := hs'.pos
  exact ⟨⟨by omega, by omega, by omega, by omega⟩, by omega, hk'⟩
theorem ok_pairL {T : M Nat} (hm : NOk x B T) : ∀ (n : Nat) (l : List Int) (st : PSt), Inv x B st → x.toks.length < st.pos + n → lastOf l < st.nodes.length → Ok (pairL x T n l) st fun l' st' => Step x 0 st st' ∧ lastOf l' < st'.nodes.length ∧ (l'.length = l.length ∨ Step x 2 st st') := by
  intro n
  induction n with
  | zero => intro l st hi hn; have := hi.pos; omega
  | succ n ih =>
    intro l st hi hn hl
    have := hi.sum
    refine Ok.bind (ok_skip hB (fun hlt => ?_) ?_)
    · refine Ok.same (m' := M.bind (named x T) fun k => pairL x T n (l ++ [(k : Int)])) rfl (Ok.bind ((nok_named hB hT hm _ ⟨by first | omega | (simp only [List.length_append, List.length_cons, List.length_nil] at *; omega), by first | omega | (simp only [List.length_append, List.length_cons, List.length_nil] at *; omega)⟩).mono ?_))
      rintro k st1 ⟨hs, hp, hk⟩
      have := hs.sum; have := hs.nodes; have := hs.len
      refine (ih _ _ ⟨by first | omega | (simp only [List.length_append, List.length_cons, List.length_nil] at *; omega), by first | omega | (simp only [List.length_append, List.length_cons, List.length_nil] at *; omega)⟩ (by first | omega | (simp only [List.length_append, List.length_cons, List.length_nil] at *; omega)) (by rw [last_snoc hB]; exact hk)).mono ?_
      rintro l' st' ⟨hs', hl', _⟩
      have := hs'.sum; have := hs'.nodes; have := hs'.len; have := hs'.pos
      exact ⟨⟨by first | omega | (simp only [List.length_append, List.length_cons, List.length_nil] at *; omega), by first | omega | (simp only [List.length_append, List.length_cons, List.length_nil] at *; omega), by first | omega | (simp only [List.length_append, List.length_cons, List.length_nil] at *; omega), by first | omega | (simp only [List.length_append, List.length_cons, List.length_nil] at *; omega)⟩, hl', .inr ⟨by first | omega | (simp only [List.length_append, List.length_cons, List.length_nil] at *; omega), by first | omega | (simp only [List.length_append, List.length_cons, List.length_nil] at *; omega), by first | omega | (simp only [List.length_append, List.length_cons, List.length_nil] at *; omega), by first | omega | (simp only [List.length_append, List.length_cons, List.length_nil] at *; omega)⟩⟩
    · exact Ok.ret ⟨⟨Nat.le_refl _, hi.pos, Nat.le_refl _, Nat.le_refl _⟩, hl, .inl rfl⟩
theorem nok_pair {T : M Nat} (hm : NOk x B T) : NOk x B (pair x T) := by
  intro st hi
  have := hi.sum
  refine Ok.bind ((nok_named hB hT hm st hi).mono ?_)
  rintro k st1 ⟨hs, hp, hk⟩
  have := hs.sum; have := hs.nodes; have := hs.len
  refine Ok.bind ((ok_pairL hB hT hm _ _ _ (hi.next' hB hs) (by omega) (by simpa [lastOf] using hk)).mono ?_)
  rintro l' st2 ⟨hs', hl', hx⟩
  have := hs'.sum; have := hs'.nodes; have := hs'.len; have := hs'.pos
  by_cases h1 : l'.length = 1
  · refine Ok.same (m' := M.ret k) (by rw [if_pos h1]) (Ok.ret ?_)
    exact ⟨⟨by omega, by omega, by omega, by omega⟩, by omega, by omega⟩
  · refine Ok.same (m' := M.bind (fromOf k) fun f => M.bind (toOf (lastOf l')) fun t => add ⟨26, f, t, 0, ⟨#[]⟩, l'⟩) (by rw [if_neg h1]) (Ok.bind (ok_from hB (by omega) fun f => Ok.bind (ok_to hB hl' fun t => ok_add hB (by omega) ?_)))
    rcases hx with hx | hx
    · exact absurd (by simpa using hx) h1
    have := hx.sum
    refine ⟨⟨?_, ?_, ?_, ?_⟩, ?_, ?_⟩ <;> first | omega | (simp only [List.length_append, List.length_cons, List.length_nil] at *; omega)
theorem nok_typ : ∀ k, NOk x B (typK x k) := by
  intro k
  induction k with
  | zero => intro st hi; exact ok_fail
  | succ k ih =>
    intro st hi
    have := hi.sum
    refine Ok.bind ((nok_pair hB hT ih st hi).mono ?_)
    rintro l st1 ⟨hs, hp, hk⟩
    have := hs.sum; have := hs.nodes; have := hs.len
    refine Ok.bind (ok_skip hB (fun hlt => ?_) ?_)
    · refine Ok.same (m' := M.bind (typK x k) fun right => M.bind (fromOf l) fun f => M.bind (toOf right) fun t => add ⟨27, f, t, 0, ⟨#[]⟩, [(l : Int), (right : Int)]⟩) rfl (Ok.bind ((ih _ ⟨by first | omega | (simp only [List.length_append, List.length_cons, List.length_nil] at *; omega), by first | omega | (simp only [List.length_append, List.length_cons, List.length_nil] at *; omega)⟩).mono ?_))
      rintro r st2 ⟨hs2, hp2, hk2⟩
      have := hs2.sum; have := hs2.nodes; have := hs2.len
      refine Ok.bind (ok_from hB (by first | omega | (simp only [List.length_append, List.length_cons, List.length_nil] at *; omega)) fun f => Ok.bind (ok_to hB hk2 fun t => ok_add hB (by first | omega | (simp only [List.length_append, List.length_cons, List.length_nil] at *; omega)) ?_))
      refine ⟨⟨?_, ?_, ?_, ?_⟩, ?_, ?_⟩ <;> first | omega | (simp only [List.length_append, List.length_cons, List.length_nil] at *; omega)
    · exact Ok.ret ⟨hs, hp, hk⟩
theorem nok_typeCase : NOk x B (typeCase x) := by
  intro st hi
  have := hi.sum
  refine Ok.bind (ok_takeKind hB fun hlt t _ _ => Ok.bind (ok_skip hB (fun hlt2 => ?_) ?_))
  · refine Ok.same (m' := M.bind (typK x 65) fun part => M.bind (toOf part) fun e => add ⟨3, t.lo, e, 0, wordOf x.s t, [(part : Int)]⟩) rfl (Ok.bind ((nok_typ hB hT 65 _ ⟨by first | omega | (simp only [List.length_append, List.length_cons, List.length_nil] at *; omega), by first | omega | (simp only [List.length_append, List.length_cons, List.length_nil] at *; omega)⟩).mono ?_))
    rintro k st1 ⟨hs, hp, hk⟩
    have := hs.sum; have := hs.nodes; have := hs.len
    refine Ok.bind (ok_to hB hk fun e => ok_add hB (by first | omega | (simp only [List.length_append, List.length_cons, List.length_nil] at *; omega)) ?_)
    refine ⟨⟨?_, ?_, ?_, ?_⟩, ?_, ?_⟩ <;> first | omega | (simp only [List.length_append, List.length_cons, List.length_nil] at *; omega)
  · refine Ok.same (m' := add ⟨3, t.lo, t.hi, 0, wordOf x.s t, []⟩) rfl (ok_add hB (by first | omega | (simp only [List.length_append, List.length_cons, List.length_nil] at *; omega)) ?_)
    refine ⟨⟨?_, ?_, ?_, ?_⟩, ?_, ?_⟩ <;> first | omega | (simp only [List.length_append, List.length_cons, List.length_nil] at *; omega)
theorem ok_ticksL : ∀ (n : Nat) (l : List Int) (st : PSt), Inv x B st → x.toks.length < st.pos + n → Ok (ticksL x n l) st fun l' st' => Step x 0 st st' := by
  intro n
  induction n with
  | zero => intro l st hi hn; have := hi.pos; omega
  | succ n ih =>
    intro l st hi hn
    have := hi.sum
    by_cases h : isK x 4 st = true
    · refine Ok.ifPos h (Ok.bind ((nok_tick hB hT st hi).mono ?_))
      rintro k st1 ⟨hs, hp, hk⟩
      have := hs.sum; have := hs.nodes; have := hs.len
      refine (ih _ _ ⟨by first | omega | (simp only [List.length_append, List.length_cons, List.length_nil] at *; omega), by first | omega | (simp only [List.length_append, List.length_cons, List.length_nil] at *; omega)⟩ (by first | omega | (simp only [List.length_append, List.length_cons, List.length_nil] at *; omega))).mono ?_
      intro l' st' hs'
      have := hs'.sum; have := hs'.nodes; have := hs'.len; have := hs'.pos
      exact ⟨by first | omega | (simp only [List.length_append, List.length_cons, List.length_nil] at *; omega), by first | omega | (simp only [List.length_append, List.length_cons, List.length_nil] at *; omega), by first | omega | (simp only [List.length_append, List.length_cons, List.length_nil] at *; omega), by first | omega | (simp only [List.length_append, List.length_cons, List.length_nil] at *; omega)⟩
    · exact Ok.here (a := l) (st' := st) (by simp only [ticksL, h]; rfl) ⟨Nat.le_refl _, hi.pos, Nat.le_refl _, Nat.le_refl _⟩
theorem ok_casesL : ∀ (n : Nat) (l : List Int) (st : PSt), Inv x B st → x.toks.length < st.pos + n → Ok (casesL x n l) st fun l' st' => Step x 2 st st' ∧ lastOf l' < st'.nodes.length := by
  intro n
  induction n with
  | zero => intro l st hi hn; have := hi.pos; omega
  | succ n ih =>
    intro l st hi hn
    have := hi.sum
    refine Ok.bind ((nok_typeCase hB hT _ hi).mono ?_)
    rintro k st1 ⟨hs, hp, hk⟩
    have := hs.sum; have := hs.nodes; have := hs.len
    refine Ok.bind (ok_skip hB (fun hlt => ?_) ?_)
    · refine (ih _ _ ⟨by first | omega | (simp only [List.length_append, List.length_cons, List.length_nil] at *; omega), by first | omega | (simp only [List.length_append, List.length_cons, List.length_nil] at *; omega)⟩ (by first | omega | (simp only [List.length_append, List.length_cons, List.length_nil] at *; omega))).mono ?_
      rintro l' st' ⟨hs', hl'⟩
      have := hs'.sum; have := hs'.nodes; have := hs'.len; have := hs'.pos
      exact ⟨⟨by first | omega | (simp only [List.length_append, List.length_cons, List.length_nil] at *; omega), by first | omega | (simp only [List.length_append, List.length_cons, List.length_nil] at *; omega), by first | omega | (simp only [List.length_append, List.length_cons, List.length_nil] at *; omega), by first | omega | (simp only [List.length_append, List.length_cons, List.length_nil] at *; omega)⟩, hl'⟩
    · exact Ok.ret ⟨⟨hs.pos, hs.len, hs.nodes, by omega⟩, by rw [last_snoc hB]; exact hk⟩
theorem ok_typeDecl {st : PSt} (hi : Inv x B st) : Ok (typeDecl x) st fun _ st' => st'.pos ≤ x.toks.length ∧ 0 < st'.nodes.length := by
  have := hi.sum
  refine Ok.bind (ok_take hB fun hlt t0 => Ok.bind ((ok_ticksL hB hT _ _ _ ⟨by first | omega | (simp only [List.length_append, List.length_cons, List.length_nil] at *; omega), by first | omega | (simp only [List.length_append, List.length_cons, List.length_nil] at *; omega)⟩ (by first | omega | (simp only [List.length_append, List.length_cons, List.length_nil] at *; omega))).mono ?_))
  intro l st1 hs
  have := hs.sum; have := hs.nodes; have := hs.len; have := hs.pos
  have rest : ∀ p (tn : Tok), st1.pos + 2 ≤ p → p ≤ x.toks.length → Ok (M.bind (casesL x (x.toks.length + 1) l) fun kids => M.bind (toOf (lastOf kids)) fun t =>
      M.bind (add ⟨2, t0.lo, t, l.length, wordOf x.s tn, kids⟩) fun _ => M.ret ()) ⟨p, st1.nodes⟩ fun _ st' => st'.pos ≤ x.toks.length ∧ 0 < st'.nodes.length := by
    intro p tn h1 h2
    refine Ok.bind ((ok_casesL hB hT _ _ _ ⟨h2, by first | omega | (simp only [List.length_append, List.length_cons, List.length_nil] at *; omega)⟩ (by first | omega | (simp only [List.length_append, List.length_cons, List.length_nil] at *; omega))).mono ?_)
    rintro l2 st3 ⟨hs3, hl3⟩
    have := hs3.sum; have := hs3.nodes; have := hs3.len; have := hs3.pos
    refine Ok.bind (ok_to hB hl3 fun e => Ok.bind (ok_add hB (by first | omega | (simp only [List.length_append, List.length_cons, List.length_nil] at *; omega)) (Ok.ret ?_)))
    exact ⟨by first | omega | (simp only [List.length_append, List.length_cons, List.length_nil] at *; omega), by first | omega | (simp only [List.length_append, List.length_cons, List.length_nil] at *; omega)⟩
  refine Ok.bind (ok_takeKind hB fun hlt1 tn _ _ => Ok.bind (ok_take hB fun hlt2 t2 => Ok.bind (ok_skip hB (fun hlt3 => ?_) ?_)))
  · exact rest _ tn (by first | omega | (simp only [List.length_append, List.length_cons, List.length_nil] at *; omega)) (by first | omega | (simp only [List.length_append, List.length_cons, List.length_nil] at *; omega))
  · exact rest _ tn (by first | omega | (simp only [List.length_append, List.length_cons, List.length_nil] at *; omega)) (by first | omega | (simp only [List.length_append, List.length_cons, List.length_nil] at *; omega))
theorem ok_decl {st : PSt} (hi : Inv x B st) : Ok (decl x) st fun _ st' => st'.pos ≤ x.toks.length ∧ 0 < st'.nodes.length := by
  by_cases h1 : isW x ⟨#[116, 121, 112, 101]⟩ st = true
  · exact Ok.ifPos h1 (ok_typeDecl hB hT hi)
  refine Ok.ifNeg h1 ?_
  have := hi.sum
  refine Ok.bind (ok_take hB fun hlt t0 => Ok.bind (ok_rec hB (by first | omega | (simp only [List.length_append, List.length_cons, List.length_nil] at *; omega)) fun r p hp1 hp2 => Ok.bind ((nok_bind hB _ ⟨by first | omega | (simp only [List.length_append, List.length_cons, List.length_nil] at *; omega), by first | omega | (simp only [List.length_append, List.length_cons, List.length_nil] at *; omega)⟩).mono ?_)))
  rintro b st1 ⟨hs, hp, hk⟩
  have := hs.sum; have := hs.nodes; have := hs.len
  refine Ok.bind (ok_binds hB ⟨by first | omega | (simp only [List.length_append, List.length_cons, List.length_nil] at *; omega), by first | omega | (simp only [List.length_append, List.length_cons, List.length_nil] at *; omega)⟩ fun l st2 hi2 p2 n2 s2 v2 => Ok.bind (ok_take hB fun hlt2 t => Ok.bind ((nok_expr hB 65 _ ⟨by first | omega | (simp only [List.length_append, List.length_cons, List.length_nil] at *; omega), by have := hi2.sum; first | omega | (simp only [List.length_append, List.length_cons, List.length_nil] at *; omega)⟩).mono ?_)))
  rintro body st3 ⟨hs3, hp3, hk3⟩
  have := hs3.sum; have := hs3.nodes; have := hs3.len; have := hi2.sum
  refine Ok.bind (ok_wrap hB (fun c hc => by have := v2 c hc; first | omega | (simp only [List.length_append, List.length_cons, List.length_nil] at *; omega)) hk3 (by first | omega | (simp only [List.length_append, List.length_cons, List.length_nil] at *; omega)) fun k st4 e1 e2 e3 => Ok.bind (ok_to hB e3 fun e => Ok.bind (ok_add hB (by first | omega | (simp only [List.length_append, List.length_cons, List.length_nil] at *; omega)) (Ok.ret ?_))))
  exact ⟨by first | omega | (simp only [List.length_append, List.length_cons, List.length_nil] at *; omega), by first | omega | (simp only [List.length_append, List.length_cons, List.length_nil] at *; omega)⟩
theorem ok_whole (h3 : 3 * x.toks.length ≤ B) : Ok (whole x) ⟨0, []⟩ fun _ st' => st'.pos = x.toks.length ∧ 0 < st'.nodes.length := by
  refine Ok.bind ((ok_decl hB hT ⟨Nat.zero_le _, by simpa using h3⟩).mono ?_)
  rintro u st1 ⟨h1, h2⟩
  by_cases h : st1.pos < x.toks.length
  · exact Ok.same (m' := fail x 1) (if_pos h) ok_fail
  · exact Ok.here (a := ()) (st' := st1) (if_neg h) ⟨by omega, h2⟩
end
end Go.Proofs.Ytkiijfgoaeiphaa

/- Plain: the tokens rise; the spans lie within the text; the parser of a text is never stuck. And One, Parse without premises. -/
set_option linter.unusedVariables false
namespace Go.Proofs.Ytkiijfgoaeiphaa
open Go.RowKit

/-- The tokens lie between k and e, one behind the other, none empty. -/
def Rises : Nat → List Tok → Nat → Prop
  | k, [], e => k ≤ e
  | k, t :: ts, e => k ≤ t.lo ∧ t.lo < t.hi ∧ Rises t.hi ts e
theorem Rises.le : ∀ {k : Nat} {ts : List Tok} {e : Nat}, Rises k ts e → k ≤ e
  | _, [], _, h => h
  | _, _ :: _, _, h => by have := h.1; have := h.2.1; have := h.2.2.le; omega
theorem Rises.from : ∀ {k k' : Nat} {ts : List Tok} {e : Nat}, Rises k ts e → k' ≤ k → Rises k' ts e
  | _, _, [], _, h, hk => Nat.le_trans hk h
  | _, _, _ :: _, _, h, hk => ⟨Nat.le_trans hk h.1, h.2⟩
theorem Rises.mem : ∀ {k : Nat} {ts : List Tok} {e : Nat}, Rises k ts e → ∀ t ∈ ts, k ≤ t.lo ∧ t.lo < t.hi ∧ t.hi ≤ e
  | _, [], _, _, t, ht => by simp at ht
  | _, u :: us, _, h, t, ht => by
    rcases List.mem_cons.1 ht with rfl | ht
    · exact ⟨h.1, h.2.1, h.2.2.le⟩
    · have := h.2.2.mem t ht; have := h.1; have := h.2.1; exact ⟨by omega, by omega, by omega⟩
theorem remark_two {c : UInt8} {r : Bs} (h : opens (c :: r) = true) : 2 ≤ (remark 0 (c :: r)).1 := by
  cases r with
  | nil => cases h
  | cons b r => rw [remark, if_pos h]; simp
theorem lexF_rises : ∀ (n k : Nat) (l : Bs), l.length ≤ n → Rises k (lexF n k l) (k + l.length) := by
  intro n
  induction n with
  | zero =>
    intro k l h
    have : l = [] := List.eq_nil_of_length_eq_zero (by omega)
    subst this
    exact Nat.le_refl _
  | succ n ih =>
    intro k l h
    cases l with
    | nil => exact Nat.le_refl _
    | cons c r =>
      simp only [List.length_cons] at h
      rw [lexF]
      split
      · have := ih (k + 1) r (by omega)
        rw [show k + 1 + r.length = k + (c :: r).length by simp; omega] at this
        exact this.from (by omega)
      · split
        · rename_i h2
          have hm := remark_two h2
          have hle := remark_le 0 (c :: r)
          split
          · have := ih (k + (remark 0 (c :: r)).1) ((c :: r).drop (remark 0 (c :: r)).1) (by rw [List.length_drop]; simp only [List.length_cons]; omega)
            rw [List.length_drop, show k + (remark 0 (c :: r)).1 + ((c :: r).length - (remark 0 (c :: r)).1) = k + (c :: r).length by omega] at this
            exact this.from (by omega)
          · exact ⟨Nat.le_refl _, by show k < k + _; omega, by show k + _ ≤ k + _; omega⟩
        · split
          · have hle := nothing_le r
            have := ih (k + (nothing r + 1)) ((c :: r).drop (nothing r + 1)) (by rw [List.length_drop]; simp only [List.length_cons]; omega)
            rw [List.length_drop, show k + (nothing r + 1) + ((c :: r).length - (nothing r + 1)) = k + (c :: r).length by simp only [List.length_cons]; omega] at this
            exact ⟨Nat.le_refl _, by show k < k + _; omega, this⟩
          · rename_i h4
            have hle := token_le (c :: r)
            have := ih (k + (token (c :: r)).2) ((c :: r).drop (token (c :: r)).2) (by rw [List.length_drop]; simp only [List.length_cons]; omega)
            rw [List.length_drop, show k + (token (c :: r)).2 + ((c :: r).length - (token (c :: r)).2) = k + (c :: r).length by omega] at this
            exact ⟨Nat.le_refl _, by show k < k + _; omega, this⟩
theorem lex_rises (s : ByteArray) : Rises 0 (lex s) s.size := by
  have := lexF_rises s.size 0 s.data.toList (by simp)
  simpa [lex] using this
theorem spansL_ok (s : ByteArray) : ∀ (ts : List Tok) (k e : Nat), Rises k ts e → (∀ r ∈ spansL s none ts, r.1 ≤ r.2 ∧ r.2 ≤ e) ∧ ∀ r0 : Nat × Nat, r0.1 ≤ r0.2 → r0.2 ≤ k → ∀ r ∈ spansL s (some r0) ts, r.1 ≤ r.2 ∧ r.2 ≤ e
  | [], k, e, h => ⟨fun r hr => by simp [spansL] at hr, fun r0 h1 h2 r hr => by
      have : r = r0 := by simpa [spansL] using hr
      subst this
      exact ⟨h1, Nat.le_trans h2 h⟩⟩
  | t :: ts, k, e, h => by
    have ih := spansL_ok s ts t.hi e h.2.2
    have hle := h.2.2.le
    have h1 := h.1
    have h2 := h.2.1
    refine ⟨fun r hr => ?_, fun r0 q1 q2 r hr => ?_⟩
    · rw [spansL] at hr
      split at hr
      · exact ih.1 r (by simpa using hr)
      · exact ih.2 (t.lo, t.hi) (Nat.le_of_lt h2) (Nat.le_refl _) r hr
    · rw [spansL] at hr
      split at hr
      · rcases List.mem_append.1 hr with hr | hr
        · have : r = r0 := by simpa using hr
          subst this
          exact ⟨q1, by omega⟩
        · exact ih.1 r hr
      · exact ih.2 (r0.1, t.hi) (by show r0.1 ≤ t.hi; omega) (Nat.le_refl _) r hr
theorem spans_ok (s : ByteArray) : SpansOk s := (spansL_ok s (lex s) 0 s.size (lex_rises s)).1
theorem wordOf_size {s : ByteArray} {t : Tok} (h1 : t.lo ≤ t.hi) (h2 : t.hi ≤ s.size) : (wordOf s t).size = t.hi - t.lo := by
  unfold wordOf
  rw [if_pos ⟨h1, h2⟩, ByteArray.size_extract]; omega
theorem ticks_ok (s : ByteArray) : TicksOk ⟨s, lex s⟩ := fun t ht _ => by
  have := (lex_rises s).mem t ht
  rw [wordOf_size (by omega) this.2.2]; omega
theorem whole_ok (s : ByteArray) (hs : s.size ≤ 100000000) : Ok (whole ⟨s, lex s⟩) ⟨0, []⟩ fun _ st' => st'.pos = (lex s).length ∧ 0 < st'.nodes.length :=
  ok_whole (x := ⟨s, lex s⟩) (B := 3 * s.size) (by unfold most; omega) (ticks_ok s) (by have := lex_len s; show 3 * (lex s).length ≤ _; omega)
theorem whole_never (s : ByteArray) (hs : s.size ≤ 100000000) : whole ⟨s, lex s⟩ ⟨0, []⟩ ≠ .stuck := (whole_ok s hs).ne
theorem One_all (s : ByteArray) (hs : s.size ≤ 100000000) (w : World) : Calls Try.prog 10 #[.string s] w (PostOne w (one s)) :=
  one_any s (by unfold most; omega) w (whole_never s hs)
theorem sub_size (s : ByteArray) (r : Nat × Nat) : (subtext s r).size ≤ s.size := by
  unfold subtext; rw [ByteArray.size_extract]; omega
theorem Parse_all (s : ByteArray) (hs : s.size ≤ 100000000) (w : World) : Calls Try.prog 12 #[.string s] w (PostDecls w (parse s)) :=
  parse_any s hs (spans_ok s) (fun r _ => whole_never _ (Nat.le_trans (sub_size s r) hs)) w
end Go.Proofs.Ytkiijfgoaeiphaa

/- parlancelaw10's alive; how declarations are read. -/
set_option linter.unusedVariables false
set_option linter.unusedSimpArgs false
namespace Go.Proofs.Ytkiijfgoaeiphaa
open Go.RowKit
attribute [local go_sem ↓] Go.wp_at_zero Go.wp_at_succ

theorem own_at {W : World} {base : Nat} {e : TypeId} {size : Nat} {v : Value} {n : Nat} {xs : List Value} (h : W.ownsRow base e size v n xs) (hn : 0 < n) : ∃ g cap, v = .slice (some ⟨g, 0, none⟩) n cap ∧ base ≤ g ∧ g < W.heap.size ∧ ∀ j u, xs[j]? = some u → W.cell? ⟨g, j, none⟩ = some u := by
  rcases h.2 with ⟨rfl, h0⟩ | ⟨g, cap, cur, rfl, _⟩
  · omega
  · have hl := h.lt g rfl
    refine ⟨g, cap, rfl, hl.1, hl.2, fun j u hu => ?_⟩
    have := h.cells (g := g) rfl j u hu
    rwa [show (⟨g, 0, none⟩ : Addr).add j = ⟨g, j, none⟩ by simp only [Addr.add, Nat.zero_add]; split <;> simp_all] at this
/-- A declaration of a row, read. -/
theorem DeclsAt.decl {w W : World} {g cap : Nat} {l : List (Dc × Value)} (h : DeclsAt w W (.slice (some ⟨g, 0, none⟩) l.length cap) l) {j : Nat} {p : Dc × Value} (hj : l[j]? = some p) :
    W.cell? ⟨g, j * 6, none⟩ = some (.int .i64 p.1.lo) ∧ W.cell? ⟨g, j * 6 + 1, none⟩ = some (.int .i64 p.1.hi) ∧ W.cell? ⟨g, j * 6 + 2, none⟩ = some p.2 ∧ W.cell? ⟨g, j * 6 + 3, none⟩ = some (.int .i64 p.1.flt.code) ∧ W.cell? ⟨g, j * 6 + 4, none⟩ = some (.int .i64 p.1.flt.lo) ∧ W.cell? ⟨g, j * 6 + 5, none⟩ = some (.int .i64 p.1.flt.hi) := by
  have hn : 0 < l.length := by
    have := (List.getElem?_eq_some_iff.1 hj).1
    omega
  obtain ⟨g', cap', e, _, _, hc⟩ := own_at h.own hn
  injection e with e
  injection e with e
  injection e with e
  subst e
  have k := fun i u hu => hc (j * 6 + i) u (flat_get (enc := declCells) (n := 6) (fun _ => rfl) l j p hj i u hu)
  exact ⟨k 0 _ rfl, k 1 _ rfl, k 2 _ rfl, k 3 _ rfl, k 4 _ rfl, k 5 _ rfl⟩
/-- A node that was given, read. -/
theorem Given.node {w W : World} {nv : Value} {ns : List Nd} (h : Given w W nv ns) (hn : 0 < ns.length) : ∃ g cap, nv = .slice (some ⟨g, 0, none⟩) ns.length cap ∧ w.heap.size ≤ g ∧ g < W.heap.size ∧ ∀ j n, ns[j]? = some n →
    W.cell? ⟨g, j * 6, none⟩ = some (.int .i64 n.kind) ∧ W.cell? ⟨g, j * 6 + 1, none⟩ = some (.int .i64 n.lo) ∧ W.cell? ⟨g, j * 6 + 2, none⟩ = some (.int .i64 n.hi) ∧ W.cell? ⟨g, j * 6 + 3, none⟩ = some (.int .i64 n.num) ∧ W.cell? ⟨g, j * 6 + 4, none⟩ = some (.string n.name) ∧ ∃ kv, W.cell? ⟨g, j * 6 + 5, none⟩ = some kv ∧ KidsIn W (fun i => i < w.heap.size) kv n.kids := by
  obtain ⟨cs, h1, h2⟩ := h
  obtain ⟨g, cap, e, hb, hl, hc⟩ := own_at h1 hn
  refine ⟨g, cap, e, hb, hl, fun j n hj => ?_⟩
  obtain ⟨a0, a1, a2, a3, a4, kv, a5, a6⟩ := nd_cells h2 hj
  exact ⟨hc _ _ a0, hc _ _ a1, hc _ _ a2, hc _ _ a3, hc _ _ a4, kv, hc _ _ a5, a6⟩

def txt10 : ByteArray := ⟨#[108, 101, 116, 32, 102, 32, 120, 32, 61, 32, 120, 32, 49, 32, 59, 59, 32, 108, 101, 116, 32, 121, 32, 61, 32, 41, 32, 59, 59, 32, 116, 121, 112, 101, 32, 116, 32, 61, 32, 65]⟩
theorem parse10 : (parse txt10).map (fun d => (d.lo, d.hi, d.nodes.length, d.flt.code, d.flt.lo, d.flt.hi, d.nodes.map (·.kind))) = [(0, 13, 7, 0, 0, 0, [4, 4, 5, 7, 11, 12, 1]), (17, 26, 0, 1, 8, 9, []), (30, 40, 2, 0, 0, 0, [3, 2])] := by kernel_rfl

set_option maxHeartbeats 2000000 in
theorem alive10_any (w : World) : Calls Try.prog 9 #[] w fun e w' => e = .returned (.bool true) ∧ Below w.heap.size w w' := by
  generalize hPost : (fun (e : Ending) (w' : World) => e = .returned (.bool true) ∧ Below w.heap.size w w') = Post
  have e0 := Sec.mk hPost
  clear hPost
  go_enter Try.func9, Try.ntmps9
  go_wp2_with fail
  refine (Parse_all txt10 (by decide) _).mono ?_
  rintro e W ⟨v, l, rfl, hl, hD⟩
  have hp := parse10
  rw [← hl] at hp
  rcases l with _ | ⟨p0, _ | ⟨p1, _ | ⟨p2, _ | ⟨p3, l⟩⟩⟩⟩
  · simp at hp
  · simp at hp
  · simp at hp
  rotate_left
  · simp at hp
  simp only [List.map_cons, List.map_nil, List.cons.injEq, Prod.mk.injEq, and_true] at hp
  obtain ⟨⟨_, _, h7, _, _, _, hk⟩, ⟨_, _, _, q1, q2, q3, _⟩, ⟨_, q4, _⟩⟩ := hp
  obtain ⟨g, cap, hv, _, _, _⟩ := own_at hD.own (by simp)
  subst hv
  obtain ⟨a0, a1, a2, a3, a4, a5⟩ := hD.decl (j := 0) rfl
  obtain ⟨b0, b1, b2, b3, b4, b5⟩ := hD.decl (j := 1) rfl
  obtain ⟨c0, c1, c2, c3, c4, c5⟩ := hD.decl (j := 2) rfl
  obtain ⟨gn, capn, hn, _, _, hnode⟩ := (hD.given p0 (by simp)).node (by rw [h7]; decide)
  have hk6 : ∃ n6, p0.1.nodes[6]? = some n6 ∧ n6.kind = 1 := by
    have h6 : 6 < p0.1.nodes.length := by rw [h7]; decide
    refine ⟨_, List.getElem?_eq_getElem h6, ?_⟩
    have := congrArg (fun q => q[6]?) hk
    simp only [List.getElem?_map, List.getElem?_eq_getElem h6] at this
    simpa using this
  obtain ⟨n6, hn6, hkind⟩ := hk6
  obtain ⟨d0, _⟩ := hnode 6 n6 hn6
  rw [hkind] at d0
  rw [hn, h7] at a2
  rw [q1] at b3
  rw [q2] at b4
  rw [q3] at b5
  rw [q4] at c1
  have hB := hD.below
  clear hD hl hnode hn hk hn6 a0 a1 a3 a4 a5 b0 b1 b2 c0 c2 c3 c4 c5
  simp only [Nat.zero_mul, Nat.zero_add, List.length_cons, List.length_nil] at *
  go_wp2_with fail
  rw [← e0.out]
  exact ⟨rfl, hB⟩
end Go.Proofs.Ytkiijfgoaeiphaa

/- An append of a whole row to a row of one's own, of whatever type. -/
set_option linter.unusedVariables false
set_option linter.unusedSimpArgs false
namespace Go.Proofs.Ytkiijfgoaeiphaa
open Go.RowKit

/-- A row that is read: n elements, its cells. -/
def RowAt (W : World) (v : Value) (n : Nat) (ys : List Value) : Prop := ∃ b c, v = .slice (some ⟨b, 0, none⟩) n c ∧ b < W.heap.size ∧ ∀ j u, ys[j]? = some u → W.cell? ⟨b, j, none⟩ = some u
theorem push_many {ops : Array Oper} {rest : List Oper} {o : Oper} {a : Act} {Q : Exit → Act → World → Prop} {e sl : TypeId} {z0 : Value} {size bytes base n m : Nat} {W : World} {v sv : Value} {xs ys : List Value}
    (hU : Try.prog.underlying sl = some (TypeDesc.slice e)) (hinfo : (Try.prog.info? e).map (fun i => (i.zero, i.size, i.bytes)) = some (some z0, size, bytes)) (hz0 : z0.cells.size = size) (hsz : 0 < size) (hby : bytes ≤ 72)
    (hgd : o.guard = none) (s z : Operand) (ho : o.op = .call { callee := .builtin .append, args := #[s, z], argTypes := #[sl, sl] })
    (hs : a.eval s = v) (hz : a.eval z = sv) (hown : W.ownsRow base e size v n xs) (hr : RowAt W sv m ys) (hlen : ys.length = m * size) (hy1 : ∀ u ∈ ys, u.oneCell' = true) (hbase : base ≤ W.heap.size) (hl : n + m ≤ 1000000000)
    (h : ∀ v' w', w'.ownsRow base e size v' (n + m) (xs ++ ys) → Apart v.ownBlock W w' → (v'.ownBlock = v.ownBlock ∨ v'.ownBlock = some W.heap.size) → wpList Try.prog ops Q rest (a.put o.dst v') w') :
    wpList Try.prog ops Q (o :: rest) a W := by
  obtain ⟨i0, hi0, h0, h1, h2⟩ := info_parts hinfo
  have hb2 : (n + m) * bytes ≤ 1000000000 * 72 := Nat.mul_le_mul hl hby
  obtain ⟨b, c, rfl, hb, hc⟩ := hr
  have hcells : ∀ j u, ys[j]? = some u → W.cell? ((⟨b, 0, none⟩ : Addr).add j) = some u := fun j u hu => by
    have := hc j u hu
    rwa [show (⟨b, 0, none⟩ : Addr).add j = ⟨b, j, none⟩ by simp only [Addr.add, Nat.zero_add]; split <;> simp_all]
  obtain ⟨v1, w1, hr1, hown1, hgr, _, hat⟩ := run_append_own_at (P := Try.prog) W base sl o.type e i0 z0 size bytes hU hi0 h0 h1 h2 hz0 hsz v n xs hown ⟨b, 0, none⟩ m c ys hlen hcells hy1 (by unfold maxLen; omega) (by omega) hbase
  refine wpList_plain hgd fun K hK' => ?_
  unfold Oper.wp execOp
  simp only [ho, resolve, invoke, builtin, Sem.run_bind, Sem.run_pure, Result.andThen_ok, List.map_toArray, List.map_cons, List.map_nil, hs, hz, hr1]
  exact hK' _ _ (h v1 w1 hown1 ⟨hgr.os, hgr.tape, hgr.output, hgr.size, fun i hi hne => hgr.block i hi hne⟩ hat)
/-- A row in a new block. -/
theorem own_new (W : World) (base : Nat) (hb : base ≤ W.heap.size) (cs : Array Value) (e : TypeId) (size n : Nat) (hs : cs.size = n * size) (hn : n ≤ maxLen) : (W.alloc (.cells cs e)).ownsRow base e size (.slice (some ⟨W.heap.size, 0, none⟩) n n) n cs.toList :=
  ⟨by simp [hs], .inr ⟨W.heap.size, n, cs, rfl, hb, heap_alloc_new W _, Nat.le_refl _, hn, hs, by rw [List.take_of_length_le (by simp [hs])]⟩⟩
end Go.Proofs.Ytkiijfgoaeiphaa

/- A row's post, where the world behind the call has new memory alone ('Below'): new blocks may bear marks. -/
set_option linter.unusedVariables false
namespace Go.Proofs.Ytkiijfgoaeiphaa
open Go.RowKit Go.ChangeShapes Go.WideShapes Go.ChangeAt
theorem below_kept {W W' : World} (h : Below W.heap.size W W') (Q : MemPlace → Prop) : W.keptBut W' Q := by
  refine ⟨h.os, h.output, fun i hi => ?_⟩
  rw [h.block i hi]
  generalize W.heap[i]? = o
  cases o with
  | none => exact rfl
  | some o => cases o <;> first | exact ⟨rfl, rfl, rfl, fun _ _ => rfl⟩ | exact .inr ⟨rfl, rfl⟩ | exact rfl
theorem below_frozen {W W' : World} (h : Below W.heap.size W W') {a : Addr} (ha : a.block < W.heap.size) : W'.frozen? a = W.frozen? a := World.frozen?_of_block (h.block _ ha)
/-- The post of a law: its arguments read as they did, and there is new memory alone. -/
theorem post_below {H : Type} {enc : TypeId × Value → H} {f : Func} {s : ChangeSpec} {apart fresh handsOn again : Bool} {W W' : World} {args : Array Value} {v : Value} {ds gs : List (DataW H)} {before pa pv : List MemPlace}
    (hW : DataW.Whole enc Try.prog f.params.toList s.vars apart W args.toList ds gs before)
    (hres : ∀ (b : Nat) (sp : Nat → Bool) (hd : Bool), DataW.TrodAll enc Try.prog W' b sp hd f.resultTypes.toList (v.resultList f.resultTypes.size) (s.fn H (ds ++ gs)).results [])
    (hargs : ∀ sp : Nat → Bool, (∀ p ∈ before, sp p.block = true) → DataW.TrodAll enc Try.prog W' 0 sp true f.params.toList args.toList (s.fn H (ds ++ gs)).args pa)
    (hvars : ∀ sp : Nat → Bool, (∀ p ∈ before, sp p.block = true) → DataW.TrodVars enc Try.prog W' sp s.vars (s.fn H (ds ++ gs)).vars pv)
    (hps : before = pa ++ pv) (hb : Below W.heap.size W W')
    (hok : ∀ (j : Nat) (t : TypeId) (r : Value), f.resultTypes[j]? = some t → (v.resultList f.resultTypes.size)[j]? = some r → Value.okWide Try.prog W' .any 0 t r) :
    s.post enc Try.prog f apart fresh handsOn again W args v W' := by
  have hlt := hW.lt
  have hold : ∀ p ∈ before, (fun b => decide (b < W.heap.size)) p.block = true := fun p hp => by simpa using hlt p hp
  refine ⟨ds, gs, before, [], pa, pv, hW, hres _ _ _, hargs _ hold, hvars _ hold, below_kept hb _, fun _ => ?_⟩
  obtain ⟨_, _, _, _, _, hz, hn⟩ := hW
  refine ⟨hok, _, _, ([] ++ pa) ++ pv, ⟨[] ++ pa, pv, trodAll_append (hargs _ (fun _ _ => rfl)) (hres _ _ _), hvars _ (fun _ _ => rfl), rfl, fun b off hp => ?_, fun ha => by simpa [hps] using hn ha⟩, fun p hp _ => by simpa [hps] using hp⟩
  have hp' : MemPlace.cell b off ∈ before := by rw [hps]; simpa using hp
  rw [below_frozen hb (hlt _ hp')]
  exact hz b off hp'
end Go.Proofs.Ytkiijfgoaeiphaa
