/- Plain functions: what package parse computes from the tokens of a text. No program in sight. -/
import Derived.Test.YtkiijfgoaeiphaaProg
import Derived.WalkKit
import Derived.Below
import Derived.Maps.AppendAt
import Derived.Deep.Draws
import Derived.Deep.AppendLies
import Derived.StillTailTactics
import Derived.Deep.QuietTactic
import Derived.BigQuiet
import Derived.Deep.RegionHeld3
import Derived.Deep.DrawnRows
import Derived.WalkSpells
import Derived.WalkLawsBesides
import Derived.Outline
import Derived.Deep.RegionLaw
import Derived.Deep.LoopGhost
import Derived.Lib.ConvBytes
namespace Go.Proofs.Ytkiijfgoaeiphaa

/-- A token: kind, from, to. -/
structure Tok where
  kind : Nat
  lo : Nat
  hi : Nat
deriving DecidableEq

/-- A node. -/
structure Nd where
  kind : Int
  lo : Int
  hi : Int
  num : Int
  name : ByteArray
  kids : List Int

/-- A fault. -/
structure Flt where
  code : Nat
  lo : Nat
  hi : Nat
deriving DecidableEq

/-- What is constant while one declaration is read. -/
structure Txt where
  s : ByteArray
  toks : List Tok

/-- What turns. -/
structure PSt where
  pos : Nat
  nodes : List Nd

inductive Res (α : Type) where
  | ok (a : α) (st : PSt)
  | bad (f : Flt)
  | stuck

abbrev M (α : Type) := PSt → Res α
def M.ret {α : Type} (a : α) : M α := fun st => .ok a st
def M.bind {α β : Type} (m : M α) (k : α → M β) : M β := fun st =>
  match m st with
  | .ok a st' => k a st'
  | .bad f => .bad f
  | .stuck => .stuck
theorem M.bind_ok {α β : Type} {m : M α} {k : α → M β} {st st' : PSt} {a : α} (h : m st = .ok a st') : M.bind m k st = k a st' := by simp only [M.bind, h]
theorem M.bind_bad {α β : Type} {m : M α} {k : α → M β} {st : PSt} {f : Flt} (h : m st = .bad f) : M.bind m k st = .bad f := by simp only [M.bind, h]
theorem M.bind_stuck {α β : Type} {m : M α} {k : α → M β} {st : PSt} (h : m st = .stuck) : M.bind m k st = .stuck := by simp only [M.bind, h]

theorem M.bind_assoc {α β γ : Type} (m : M α) (k : α → M β) (k' : β → M γ) (st : PSt) : M.bind (M.bind m k) k' st = M.bind m (fun a => M.bind (k a) k') st := by
  simp only [M.bind]
  cases m st <;> rfl

/-- A token's bytes. -/
def wordOf (s : ByteArray) (t : Tok) : ByteArray := if t.lo ≤ t.hi ∧ t.hi ≤ s.size then s.extract t.lo t.hi else ⟨#[]⟩
def tokIs (s : ByteArray) (t : Tok) (word : ByteArray) : Bool := (t.kind == 5 || t.kind == 6) && ((wordOf s t).toList == word.toList)

section
variable (x : Txt)

def isW (word : ByteArray) (st : PSt) : Bool :=
  match x.toks[st.pos]? with
  | some t => tokIs x.s t word
  | none => false
def isK (kind : Nat) (st : PSt) : Bool :=
  match x.toks[st.pos]? with
  | some t => t.kind == kind
  | none => false
/-- A question: nothing turns. -/
def ask {α : Type} (q : PSt → α) : M α := fun st => .ok (q st) st

def fail {α : Type} (code : Nat) : M α := fun st =>
  match x.toks[st.pos]? with
  | some t => .bad ⟨code, t.lo, t.hi⟩
  | none => .bad ⟨code, x.s.size, x.s.size⟩
def enter (depth : Nat) : M Unit := if 64 < depth then fail x 2 else M.ret ()
def next : M Tok := fun st =>
  match x.toks[st.pos]? with
  | some t => .ok t { st with pos := st.pos + 1 }
  | none => .stuck
def skip (word : ByteArray) : M Bool := fun st => if isW x word st then .ok true { st with pos := st.pos + 1 } else .ok false st
def take (word : ByteArray) : M Tok := fun st => if isW x word st then next x st else fail x 1 st
def takeKind (kind : Nat) : M Tok := fun st => if isK x kind st then next x st else fail x 1 st
/-- As many nodes as a list may ever have. -/
def most : Nat := 1000000000
def add (n : Nd) : M Nat := fun st => if st.nodes.length < most then .ok st.nodes.length { st with nodes := st.nodes ++ [n] } else .stuck
def fromOf (k : Nat) : M Int := fun st => match st.nodes[k]? with | some n => .ok n.lo st | none => .stuck
def toOf (k : Nat) : M Int := fun st => match st.nodes[k]? with | some n => .ok n.hi st | none => .stuck
def leaf (kind num : Nat) (name : ByteArray) (t : Tok) : M Nat := add ⟨kind, t.lo, t.hi, num, name, []⟩

/-- The value of digits, if it is below 2^30. -/
def numberOf : Nat → List UInt8 → Nat × Bool
  | v, [] => (v, true)
  | v, c :: r => if 1073741824 ≤ v * 10 + (c.toNat + 256 - 48) % 256 then (0, false) else numberOf (v * 10 + (c.toNat + 256 - 48) % 256) r
def number (st : PSt) : Nat × Bool :=
  match x.toks[st.pos]? with
  | some t => if t.kind == 3 then numberOf 0 (wordOf x.s t).data.toList else (0, false)
  | none => (0, false)

def bind : M Nat := M.bind (takeKind x 1) fun t => leaf 4 0 (wordOf x.s t) t
def bindsL : Nat → List Int → M (List Int)
  | 0, _ => fun _ => .stuck
  | n + 1, l => fun st => if isK x 1 st then M.bind (bind x) (fun b => bindsL n (l ++ [(b : Int)])) st else .ok l st
def binds : M (List Int) := bindsL x (x.toks.length + 1) []
/-- Where a function begins: the first one where it is told. -/
def firstOf (first : Option Nat) (r : List Int) (f : Int) : Int := match first, r with | some p, [] => (p : Int) | _, _ => f
/-- The functions of the binders, the last one first; 'first': where the first one begins. -/
def wrapL (first : Option Nat) : List Int → Nat → M Nat
  | [], body => M.ret body
  | b :: r, body => M.bind (fromOf b.toNat) fun f => M.bind (toOf body) fun t =>
      M.bind (add ⟨12, firstOf first r f, t, 0, ⟨#[]⟩, [b, (body : Int)]⟩) fun k => wrapL first r k
def wrap (binders : List Int) (first : Option Nat) (body : Nat) : M Nat := wrapL first binders.reverse body
def recM : M Nat := M.bind (skip x ⟨#[114, 101, 99]⟩) fun b => M.ret (if b then 1 else 0)

def operate (name : ByteArray) (left right : Nat) : M Nat := M.bind (fromOf left) fun f => M.bind (toOf right) fun t => add ⟨17, f, t, 0, name, [(left : Int), (right : Int)]⟩

def isOne (signs : List ByteArray) (st : PSt) : Bool := signs.any fun w => isW x w st
def chainL (operand : M Nat) (signs : List ByteArray) : Nat → Nat → M Nat
  | 0, _ => fun _ => .stuck
  | n + 1, left => fun st =>
    if isOne x signs st then M.bind (next x) (fun t => M.bind operand fun right => M.bind (operate (wordOf x.s t) left right) fun k => chainL operand signs n k) st
    else .ok left st
def chain (operand : M Nat) (signs : List ByteArray) : M Nat := M.bind operand fun left => chainL x operand signs (x.toks.length + 1) left

def atomBegins (st : PSt) : Bool :=
  isK x 1 st || isK x 2 st || isW x ⟨#[116, 114, 117, 101]⟩ st || isW x ⟨#[102, 97, 108, 115, 101]⟩ st || isW x ⟨#[40]⟩ st || (number x st).2
def closedBegins (st : PSt) : Bool := isW x ⟨#[95]⟩ st || atomBegins x st

/-- Parts with "," between; 'l': those that are read. -/
def rowL (part : M Nat) : Nat → List Int → M (List Int)
  | 0, _ => fun _ => .stuck
  | n + 1, l => M.bind (skip x ⟨#[44]⟩) fun b => if b then M.bind part fun k => rowL part n (l ++ [(k : Int)]) else M.ret l
def brackets (unit tuple : Nat) (part : M Nat) : M Nat := M.bind (take x ⟨#[40]⟩) fun t0 => fun st =>
  if isW x ⟨#[41]⟩ st then M.bind (next x) (fun t => add ⟨unit, t0.lo, t.hi, 0, ⟨#[]⟩, []⟩) st
  else M.bind part (fun k0 => M.bind (rowL x part (x.toks.length + 1) [(k0 : Int)]) fun kids => M.bind (take x ⟨#[41]⟩) fun t =>
    if kids.length = 1 then M.ret k0 else add ⟨tuple, t0.lo, t.hi, 0, ⟨#[]⟩, kids⟩) st

section
-- The expression (the pattern) of one more depth.
variable (E : M Nat)

def atom : M Nat := fun st =>
  if atomBegins x st then
    if (number x st).2 then M.bind (next x) (fun t => leaf 7 (number x st).1 ⟨#[]⟩ t) st
    else if isK x 1 st then M.bind (next x) (fun t => leaf 5 0 (wordOf x.s t) t) st
    else if isK x 2 st then M.bind (next x) (fun t => leaf 6 0 (wordOf x.s t) t) st
    else if isW x ⟨#[116, 114, 117, 101]⟩ st then M.bind (next x) (fun t => leaf 8 1 ⟨#[]⟩ t) st
    else if isW x ⟨#[102, 97, 108, 115, 101]⟩ st then M.bind (next x) (fun t => leaf 8 0 ⟨#[]⟩ t) st
    else brackets x 9 10 E st
  else fail x 1 st
def applyL : Nat → Nat → M Nat
  | 0, _ => fun _ => .stuck
  | n + 1, left => fun st =>
    if atomBegins x st then M.bind (atom x E) (fun right => M.bind (fromOf left) fun f => M.bind (toOf right) fun t =>
      M.bind (add ⟨11, f, t, 0, ⟨#[]⟩, [(left : Int), (right : Int)]⟩) fun k => applyL n k) st
    else .ok left st
def apply : M Nat := M.bind (atom x E) fun left => applyL x E (x.toks.length + 1) left
def product : M Nat := chain x (apply x E) [⟨#[42]⟩]
def sum : M Nat := chain x (product x E) [⟨#[43]⟩, ⟨#[45]⟩]
def compare : M Nat := M.bind (sum x E) fun left => fun st =>
  if isW x ⟨#[61]⟩ st || isW x ⟨#[60]⟩ st then M.bind (next x) (fun t => M.bind (sum x E) fun right => operate (wordOf x.s t) left right) st
  else .ok left st
def function : M Nat := M.bind (take x ⟨#[102, 117, 110]⟩) fun t0 => M.bind (bind x) fun b => M.bind (binds x) fun bs =>
  M.bind (take x ⟨#[45, 62]⟩) fun _ => M.bind E fun body => wrap ((b : Int) :: bs) (some t0.lo) body
def letIn : M Nat := M.bind (take x ⟨#[108, 101, 116]⟩) fun t0 => M.bind (recM x) fun r => M.bind (bind x) fun name => M.bind (binds x) fun bs =>
  M.bind (take x ⟨#[61]⟩) fun _ => M.bind E fun b0 => M.bind (wrap bs none b0) fun bound => M.bind (take x ⟨#[105, 110]⟩) fun _ => M.bind E fun body =>
  M.bind (toOf body) fun t => add ⟨13, t0.lo, t, r, ⟨#[]⟩, [(name : Int), (bound : Int), (body : Int)]⟩
def choice : M Nat := M.bind (take x ⟨#[105, 102]⟩) fun t0 => M.bind E fun a => M.bind (take x ⟨#[116, 104, 101, 110]⟩) fun _ => M.bind E fun b =>
  M.bind (take x ⟨#[101, 108, 115, 101]⟩) fun _ => M.bind E fun c => M.bind (toOf c) fun t => add ⟨14, t0.lo, t, 0, ⟨#[]⟩, [(a : Int), (b : Int), (c : Int)]⟩

def closed (Pt : M Nat) : M Nat := fun st =>
  if closedBegins x st then
    if (number x st).2 then M.bind (next x) (fun t => leaf 19 (number x st).1 ⟨#[]⟩ t) st
    else if isK x 1 st then bind x st
    else if isK x 2 st then M.bind (next x) (fun t => leaf 23 0 (wordOf x.s t) t) st
    else if isW x ⟨#[95]⟩ st then M.bind (next x) (fun t => leaf 18 0 ⟨#[]⟩ t) st
    else if isW x ⟨#[116, 114, 117, 101]⟩ st then M.bind (next x) (fun t => leaf 20 1 ⟨#[]⟩ t) st
    else if isW x ⟨#[102, 97, 108, 115, 101]⟩ st then M.bind (next x) (fun t => leaf 20 0 ⟨#[]⟩ t) st
    else brackets x 21 22 Pt st
  else fail x 1 st
end

/-- A pattern; k: how much deeper one may go (65: depth 0). -/
def patK : Nat → M Nat
  | 0 => fail x 2
  | k + 1 => fun st =>
    if isK x 2 st then M.bind (next x) (fun t => fun st1 =>
      if closedBegins x st1 then M.bind (closed x (patK k)) (fun part => M.bind (toOf part) fun e => add ⟨23, t.lo, e, 0, wordOf x.s t, [(part : Int)]⟩) st1
      else add ⟨23, t.lo, t.hi, 0, wordOf x.s t, []⟩ st1) st
    else closed x (patK k) st

def arm (E Pt : M Nat) : M Nat := M.bind Pt fun p => M.bind (take x ⟨#[45, 62]⟩) fun _ => M.bind E fun b => M.bind (fromOf p) fun f => M.bind (toOf b) fun t =>
  add ⟨16, f, t, 0, ⟨#[]⟩, [(p : Int), (b : Int)]⟩
def armsL (E Pt : M Nat) : Nat → List Int → M (List Int)
  | 0, _ => fun _ => .stuck
  | n + 1, l => M.bind (arm x E Pt) fun k => M.bind (skip x ⟨#[124]⟩) fun b => if b then armsL E Pt n (l ++ [(k : Int)]) else M.ret (l ++ [(k : Int)])
def lastOf (l : List Int) : Nat := (l.getLast?.getD 0).toNat
def matchM (E Pt : M Nat) : M Nat := M.bind (take x ⟨#[109, 97, 116, 99, 104]⟩) fun t0 => M.bind E fun a => M.bind (take x ⟨#[119, 105, 116, 104]⟩) fun _ => M.bind (skip x ⟨#[124]⟩) fun _ =>
  M.bind (armsL x E Pt (x.toks.length + 1) [(a : Int)]) fun kids => M.bind (toOf (lastOf kids)) fun t => add ⟨15, t0.lo, t, 0, ⟨#[]⟩, kids⟩

/-- An expression; k: how much deeper one may go (65: depth 0). -/
def exprK : Nat → M Nat
  | 0 => fail x 2
  | k + 1 => fun st =>
    if isW x ⟨#[102, 117, 110]⟩ st then function x (exprK k) st
    else if isW x ⟨#[108, 101, 116]⟩ st then letIn x (exprK k) st
    else if isW x ⟨#[105, 102]⟩ st then choice x (exprK k) st
    else if isW x ⟨#[109, 97, 116, 99, 104]⟩ st then matchM x (exprK k) (patK x k) st
    else compare x (exprK k) st

def tick : M Nat := M.bind (takeKind x 4) fun t => if 0 < (wordOf x.s t).size then leaf 24 0 ((wordOf x.s t).extract 1 (wordOf x.s t).size) t else fun _ => .stuck

section
-- The type of one more depth.
variable (T : M Nat)
def namedFirst : M Nat := fun st =>
  if isK x 4 st then tick x st
  else if isK x 1 st then M.bind (next x) (fun t => leaf 25 0 (wordOf x.s t) t) st
  else M.bind (take x ⟨#[40]⟩) (fun t0 => M.bind T fun k0 => M.bind (rowL x T (x.toks.length + 1) [(k0 : Int)]) fun kids => M.bind (take x ⟨#[41]⟩) fun _ =>
    if kids.length = 1 then M.ret k0 else M.bind (takeKind x 1) fun t => add ⟨25, t0.lo, t.hi, 0, wordOf x.s t, kids⟩) st
def namedL : Nat → Nat → M Nat
  | 0, _ => fun _ => .stuck
  | n + 1, part => fun st =>
    if isK x 1 st then M.bind (next x) (fun t => M.bind (fromOf part) fun f => M.bind (add ⟨25, f, t.hi, 0, wordOf x.s t, [(part : Int)]⟩) fun k => namedL n k) st
    else .ok part st
def named : M Nat := M.bind (namedFirst x T) fun p => namedL x (x.toks.length + 1) p
def pairL : Nat → List Int → M (List Int)
  | 0, _ => fun _ => .stuck
  | n + 1, l => M.bind (skip x ⟨#[42]⟩) fun b => if b then M.bind (named x T) fun k => pairL n (l ++ [(k : Int)]) else M.ret l
def pair : M Nat := M.bind (named x T) fun k0 => M.bind (pairL x T (x.toks.length + 1) [(k0 : Int)]) fun kids =>
  if kids.length = 1 then M.ret k0 else M.bind (fromOf k0) fun f => M.bind (toOf (lastOf kids)) fun t => add ⟨26, f, t, 0, ⟨#[]⟩, kids⟩
end
/-- A type; k: how much deeper one may go (65: depth 0). -/
def typK : Nat → M Nat
  | 0 => fail x 2
  | k + 1 => M.bind (pair x (typK k)) fun left => M.bind (skip x ⟨#[45, 62]⟩) fun b =>
    if b then M.bind (typK k) fun right => M.bind (fromOf left) fun f => M.bind (toOf right) fun t => add ⟨27, f, t, 0, ⟨#[]⟩, [(left : Int), (right : Int)]⟩
    else M.ret left

def typeCase : M Nat := M.bind (takeKind x 2) fun t => M.bind (skip x ⟨#[111, 102]⟩) fun b =>
  if b then M.bind (typK x 65) fun part => M.bind (toOf part) fun e => add ⟨3, t.lo, e, 0, wordOf x.s t, [(part : Int)]⟩
  else add ⟨3, t.lo, t.hi, 0, wordOf x.s t, []⟩
def ticksL : Nat → List Int → M (List Int)
  | 0, _ => fun _ => .stuck
  | n + 1, l => fun st => if isK x 4 st then M.bind (tick x) (fun k => ticksL n (l ++ [(k : Int)])) st else .ok l st
def casesL : Nat → List Int → M (List Int)
  | 0, _ => fun _ => .stuck
  | n + 1, l => M.bind (typeCase x) fun k => M.bind (skip x ⟨#[124]⟩) fun b => if b then casesL n (l ++ [(k : Int)]) else M.ret (l ++ [(k : Int)])
def typeDecl : M Unit := M.bind (take x ⟨#[116, 121, 112, 101]⟩) fun t0 => M.bind (ticksL x (x.toks.length + 1) []) fun ticks => M.bind (takeKind x 1) fun tn =>
  M.bind (take x ⟨#[61]⟩) fun _ => M.bind (skip x ⟨#[124]⟩) fun _ => M.bind (casesL x (x.toks.length + 1) ticks) fun kids => M.bind (toOf (lastOf kids)) fun t =>
  M.bind (add ⟨2, t0.lo, t, ticks.length, wordOf x.s tn, kids⟩) fun _ => M.ret ()
def decl : M Unit := fun st =>
  if isW x ⟨#[116, 121, 112, 101]⟩ st then typeDecl x st
  else M.bind (take x ⟨#[108, 101, 116]⟩) (fun t0 => M.bind (recM x) fun r => M.bind (bind x) fun name => M.bind (binds x) fun bs => M.bind (take x ⟨#[61]⟩) fun _ =>
    M.bind (exprK x 65) fun b0 => M.bind (wrap bs none b0) fun body => M.bind (toOf body) fun t =>
    M.bind (add ⟨1, t0.lo, t, r, ⟨#[]⟩, [(name : Int), (body : Int)]⟩) fun _ => M.ret ()) st
/-- The whole: all tokens make one declaration. -/
def whole : M Unit := M.bind (decl x) fun _ => fun st => if st.pos < x.toks.length then fail x 1 st else .ok () st
end
end Go.Proofs.Ytkiijfgoaeiphaa

/- The parser's memory: what it says of a world that a parser stands in it, and what keeps that. Lemmas alone. -/
set_option linter.unusedVariables false
namespace Go.Proofs.Ytkiijfgoaeiphaa
open Go.RowKit

/-- A fact that the walk's simp doesn't look into. -/
structure Eqn {α : Type} (a b : α) : Prop where
  out : a = b
structure Sec (p : Prop) : Prop where
  out : p

/-- The blocks below g and those of L are as they were; nothing has gone. -/
structure Keeps (g : Nat) (L : Nat → Prop) (w w' : World) : Prop where
  os : w'.os = w.os
  tape : w'.tape = w.tape
  output : w'.output = w.output
  size : w.heap.size ≤ w'.heap.size
  below : ∀ i, i < g → w'.heap[i]? = w.heap[i]?
  mine : ∀ i, L i → w'.heap[i]? = w.heap[i]?
section
variable {g : Nat} {L : Nat → Prop} {w w' w1 w2 : World}
theorem Keeps.refl (g : Nat) (L : Nat → Prop) (w : World) : Keeps g L w w := ⟨rfl, rfl, rfl, Nat.le_refl _, fun _ _ => rfl, fun _ _ => rfl⟩
theorem Keeps.trans (h : Keeps g L w w1) (k : Keeps g L w1 w2) : Keeps g L w w2 :=
  ⟨k.os.trans h.os, k.tape.trans h.tape, k.output.trans h.output, Nat.le_trans h.size k.size, fun i hi => (k.below i hi).trans (h.below i hi), fun i hi => (k.mine i hi).trans (h.mine i hi)⟩
theorem Keeps.weaken {L' : Nat → Prop} (h : Keeps g L w w') (hl : ∀ i, L' i → L i) : Keeps g L' w w' :=
  ⟨h.os, h.tape, h.output, h.size, h.below, fun i hi => h.mine i (hl i hi)⟩
/-- A new block. -/
theorem Keeps.alloc (h : Keeps g L w w1) (hg : g ≤ w1.heap.size) (hl : ∀ i, L i → i < w1.heap.size) (o : Obj) : Keeps g L w (w1.alloc o) :=
  h.trans ⟨rfl, rfl, rfl, by simp, fun i hi => Below.heap_alloc _ _ _ (by omega), fun i hi => Below.heap_alloc _ _ _ (hl i hi)⟩
theorem Keeps.drew (h : Keeps g L w w1) : Keeps g L w w1.drew := ⟨h.os, h.tape, h.output, h.size, h.below, h.mine⟩
theorem drewN_heap (w : World) (n : Nat) : (w.drewN n).heap = w.heap := rfl
theorem Keeps.drewN (h : Keeps g L w w1) (n : Nat) : Keeps g L w (w1.drewN n) := ⟨h.os, h.tape, h.output, h.size, h.below, h.mine⟩
theorem Keeps.set (h : Keeps g L w w1) {a : Addr} (hg : g ≤ a.block) (hl : ¬ L a.block) (v : Value) : Keeps g L w (w1.setCell a v) :=
  h.trans ⟨rfl, rfl, rfl, by simp, fun i hi => Below.heap_setCell _ _ _ _ (by omega), fun i hi => Below.heap_setCell _ _ _ _ (fun e => hl (e ▸ hi))⟩
theorem Keeps.grown (h : Keeps g L w w1) {row : Option Nat} (hg : w1.grownBy w2 row) (hs : g ≤ w1.heap.size) (hl : ∀ i, L i → i < w1.heap.size) (hr : ∀ k, row = some k → g ≤ k ∧ ¬ L k) : Keeps g L w w2 :=
  h.trans ⟨hg.os, hg.tape, hg.output, hg.size, fun i hi => hg.block i (by omega) (fun e => by have := hr i e.symm; omega), fun i hi => hg.block i (hl i hi) (fun e => (hr i e.symm).2 hi)⟩
theorem Keeps.cell (h : Keeps g L w w') {a : Addr} (ha : a.block < g ∨ L a.block) : w'.cell? a = w.cell? a :=
  World.cell?_of_block (ha.elim (h.below _) (h.mine _))
theorem Keeps.frozen (h : Keeps g L w w') {a : Addr} (ha : a.block < g ∨ L a.block) : w'.frozen? a = w.frozen? a :=
  World.frozen?_of_block (ha.elim (h.below _) (h.mine _))
theorem Keeps.grownBy (h : Keeps g L w w') (row : Option Nat) (hl : ∀ k, k < w.heap.size → some k ≠ row → k < g ∨ L k) : w.grownBy w' row :=
  ⟨h.os, h.tape, h.output, h.size, fun k hk hr => (hl k hk hr).elim (h.below _) (h.mine _)⟩
end

/-- A list of whole numbers that is read: in blocks that Bl lets in. -/
def IntsAt (w : World) (Bl : Nat → Prop) (v : Value) (xs : List Int) : Prop :=
  ∃ a c, v = .slice a xs.length c ∧ xs.length ≤ c ∧ c ≤ maxLen ∧ (xs ≠ [] → ∃ b o, a = some ⟨b, o, none⟩ ∧ Bl b ∧ ∀ j x, xs[j]? = some x → w.cell? ⟨b, o + j, none⟩ = some (.int .i64 x))

/-- The cells of a token. -/
def tokCells (t : Tok) : List Value := [.int .i64 t.kind, .int .i64 t.lo, .int .i64 t.hi]
/-- A list of tokens that is read. -/
def ToksAt (w : World) (Bl : Nat → Prop) (v : Value) (ts : List Tok) : Prop :=
  ∃ a c, v = .slice a ts.length c ∧ ts.length ≤ maxLen ∧ (ts ≠ [] → ∃ b o, a = some ⟨b, o, none⟩ ∧ Bl b ∧ ∀ j t, ts[j]? = some t → ∀ i u, (tokCells t)[i]? = some u → w.cell? ⟨b, o + j * 3 + i, none⟩ = some u)
theorem ToksAt.keep {w w' : World} {Bl : Nat → Prop} {v : Value} {ts : List Tok} (h : ToksAt w Bl v ts) (hk : ∀ a : Addr, Bl a.block → w'.cell? a = w.cell? a) : ToksAt w' Bl v ts := by
  obtain ⟨a, c, h1, h2, h3⟩ := h
  refine ⟨a, c, h1, h2, fun hne => ?_⟩
  obtain ⟨b, o, e, hb, hc⟩ := h3 hne
  exact ⟨b, o, e, hb, fun j t hj i u hu => (hk ⟨b, o + j * 3 + i, none⟩ hb).trans (hc j t hj i u hu)⟩

/-- The parts of a node: a block of whole numbers that nothing writes any more. -/
def KidsIn (w : World) (L : Nat → Prop) (v : Value) (xs : List Int) : Prop :=
  ∃ a c, v = .slice a xs.length c ∧ xs.length ≤ c ∧ c ≤ maxLen ∧ (xs ≠ [] → ∃ b o cur fr, a = some ⟨b, o, none⟩ ∧ ¬ L b ∧ w.heap[b]? = some (.cells cur 3 fr) ∧ ∀ j x, xs[j]? = some x → cur[o + j]? = some (.int .i64 x))
/-- The cells of a node. -/
def NdIn (w : World) (L : Nat → Prop) (n : Nd) (c : List Value) : Prop :=
  ∃ kv, c = [.int .i64 n.kind, .int .i64 n.lo, .int .i64 n.hi, .int .i64 n.num, .string n.name, kv] ∧ KidsIn w L kv n.kids
/-- The cells of a list of nodes. -/
def NdsIn (w : World) (L : Nat → Prop) (ns : List Nd) (cs : List Value) : Prop :=
  cs.length = ns.length * 6 ∧ ∀ j n, ns[j]? = some n → NdIn w L n ((cs.drop (j * 6)).take 6)

/-- Where the parser lies, and what it reads. -/
structure Cx extends Txt where
  tv : Value
  g : Nat

/-- A parser stands in the world: its blocks are from g on, none of them is of L. -/
structure PW (x : Cx) (L : Nat → Prop) (w : World) (st : PSt) : Prop where
  bound : ∀ i, L i → i < w.heap.size
  glt : x.g < w.heap.size
  gL : ¬ L x.g
  toks : ToksAt w (· < x.g) x.tv x.toks
  pos : st.pos ≤ x.toks.length
  small : x.toks.length ≤ most
  ssz : x.s.size ≤ maxLen
  row : ∃ nv cs, w.heap[x.g]? = some (.cells #[.string x.s, x.tv, .int .i64 st.pos, nv] 71 (0, 0)) ∧
    w.ownsRow (x.g + 1) 53 6 nv st.nodes.length cs ∧ (∀ k, nv.ownBlock = some k → ¬ L k) ∧ NdsIn w L st.nodes cs

theorem KidsIn.keep {w w' : World} {L L' : Nat → Prop} {v : Value} {xs : List Int} (h : KidsIn w L v xs)
    (hk : ∀ b cur fr, ¬ L b → w.heap[b]? = some (.cells cur 3 fr) → ¬ L' b ∧ w'.heap[b]? = w.heap[b]?) : KidsIn w' L' v xs := by
  obtain ⟨a, c, h1, h2, h3, h4⟩ := h
  refine ⟨a, c, h1, h2, h3, fun hne => ?_⟩
  obtain ⟨b, o, cur, fr, e, hb, hh, hc⟩ := h4 hne
  obtain ⟨k1, k2⟩ := hk b cur fr hb hh
  exact ⟨b, o, cur, fr, e, k1, k2.trans hh, hc⟩
theorem NdIn.keep {w w' : World} {L L' : Nat → Prop} {n : Nd} {c : List Value} (h : NdIn w L n c)
    (hk : ∀ b cur fr, ¬ L b → w.heap[b]? = some (.cells cur 3 fr) → ¬ L' b ∧ w'.heap[b]? = w.heap[b]?) : NdIn w' L' n c := by
  obtain ⟨kv, h1, h2⟩ := h
  exact ⟨kv, h1, h2.keep hk⟩
theorem NdsIn.keep {w w' : World} {L L' : Nat → Prop} {ns : List Nd} {cs : List Value} (h : NdsIn w L ns cs)
    (hk : ∀ b cur fr, ¬ L b → w.heap[b]? = some (.cells cur 3 fr) → ¬ L' b ∧ w'.heap[b]? = w.heap[b]?) : NdsIn w' L' ns cs :=
  ⟨h.1, fun j n hj => (h.2 j n hj).keep hk⟩

section
variable {x : Cx} {L L' : Nat → Prop} {w w' w1 : World} {st : PSt}
theorem heap_lt {w : World} {i : Nat} {o : Obj} (h : w.heap[i]? = some o) : i < w.heap.size := (Array.getElem?_eq_some_iff.1 h).1
theorem ownsRow_of_heap {w w' : World} {base : Nat} {e : TypeId} {size n : Nat} {v : Value} {xs : List Value} (h : w.ownsRow base e size v n xs) (hk : ∀ k, v.ownBlock = some k → w'.heap[k]? = w.heap[k]?) : w'.ownsRow base e size v n xs := by
  refine ⟨h.1, ?_⟩
  rcases h.2 with hn | ⟨g, cap, cur, rfl, hb, hgg, rest⟩
  · exact .inl hn
  · exact .inr ⟨g, cap, cur, rfl, hb, (hk g rfl).trans hgg, rest⟩
/-- Whatever leaves the parser's own blocks alone. -/
theorem PW.frame (h : PW x L w st) (hs : w.heap.size ≤ w'.heap.size) (hL : ∀ i, L' i → i < w'.heap.size) (hLg : ∀ i, L' i → i < w.heap.size → L i)
    (hk : ∀ i, i < w.heap.size → ¬ L i → w'.heap[i]? = w.heap[i]?) (hb : ∀ i, i < x.g → w'.heap[i]? = w.heap[i]?) : PW x L' w' st := by
  obtain ⟨nv, cs, h1, h2, h3, h4⟩ := h.row
  have hg := h.glt
  refine ⟨hL, by omega, fun hc => h.gL (hLg _ hc hg), h.toks.keep fun a ha => World.cell?_of_block (hb _ ha), h.pos, h.small, h.ssz, nv, cs, (hk _ hg h.gL).trans h1, ownsRow_of_heap h2 fun k hk' => ?_, fun k hk' hc => ?_, h4.keep fun b cur fr hb' hh => ?_⟩
  · exact hk k (h2.lt k hk').2 (h3 k hk')
  · exact h3 k hk' (hLg k hc (h2.lt k hk').2)
  · exact ⟨fun hc => hb' (hLg b hc (heap_lt hh)), hk b (heap_lt hh) hb'⟩
theorem PW.weaken (h : PW x L w st) (hl : ∀ i, L' i → L i) : PW x L' w st := h.frame (Nat.le_refl _) (fun i hi => h.bound i (hl i hi)) (fun i hi _ => hl i hi) (fun _ _ _ => rfl) (fun _ _ => rfl)
theorem PW.drew (h : PW x L w st) : PW x L w.drew st := h.frame (Nat.le_refl _) h.bound (fun i hi _ => hi) (fun _ _ _ => rfl) (fun _ _ => rfl)
theorem PW.drewN (h : PW x L w st) (n : Nat) : PW x L (w.drewN n) st := h.frame (Nat.le_refl _) h.bound (fun i hi _ => hi) (fun _ _ _ => rfl) (fun _ _ => rfl)
/-- A new block, which is one's own from now on. -/
theorem PW.alloc_own (h : PW x L w st) (o : Obj) : PW x (fun i => L i ∨ i = w.heap.size) (w.alloc o) st := by
  have hg := h.glt
  refine h.frame (by simp) (fun i hi => ?_) (fun i hi hs => ?_) (fun i hi _ => Below.heap_alloc _ _ _ hi) (fun i hi => Below.heap_alloc _ _ _ (by omega))
  · rcases hi with hi | rfl
    · have := h.bound i hi; simp; omega
    · simp
  · rcases hi with hi | rfl
    · exact hi
    · omega
theorem PW.alloc (h : PW x L w st) (o : Obj) : PW x L (w.alloc o) st := (h.alloc_own o).weaken fun i hi => .inl hi
theorem PW.set (h : PW x L w st) {a : Addr} (ha : L a.block) (hb : x.g ≤ a.block) (v : Value) : PW x L (w.setCell a v) st :=
  h.frame (by simp) (fun i hi => by simpa using h.bound i hi) (fun i hi _ => hi) (fun i _ hi => Below.heap_setCell _ _ _ _ (fun e => hi (e ▸ ha))) (fun i hi => Below.heap_setCell _ _ _ _ (by omega))
/-- An append to a row of one's own: what is new is one's own too. -/
theorem PW.grown (h : PW x L w st) {row : Option Nat} (hg : w.grownBy w' row) (hr : ∀ k, row = some k → L k ∧ x.g ≤ k) : PW x (fun i => L i ∨ (w.heap.size ≤ i ∧ i < w'.heap.size)) w' st := by
  have hs := hg.size
  have hgl := h.glt
  refine h.frame hs (fun i hi => ?_) (fun i hi hlt => ?_) (fun i hi hn => hg.block i hi (fun e => hn (hr i e.symm).1)) (fun i hi => hg.block i (by omega) (fun e => by have := (hr i e.symm).2; omega))
  · rcases hi with hi | hi
    · have := h.bound i hi; omega
    · exact hi.2
  · rcases hi with hi | hi
    · exact hi
    · omega
end
/-- A region that draws its order: it reads first; then comes a tail in one order. The world behind the draw is a letter. -/
theorem wp_tail {P : Program} {id : Nat} {Q : Exit → Act → World → Prop} {a : Act} {w : World} {l : List Oper} (n : Nat) (hm : P.follows .mixedOrders = true) (hB : Region.lexTailB .any l.toArray n = true)
    (h : ∀ W : World, (∀ ad, W.cell? ad = w.cell? ad) → (∀ ad, W.frozen? ad = w.frozen? ad) → W.heap.size = w.heap.size → Sec (W = w.drew) → wpStill P l.toArray W (fun a' => wpList P l.toArray Q (l.drop n) a' W) (l.take n) a) : (Code.region id l.toArray true).wp P Q a w :=
  wp_region_still_tail n hm hB (h _ (fun _ => rfl) (fun _ => rfl) rfl ⟨rfl⟩)
end Go.Proofs.Ytkiijfgoaeiphaa

/- The lexer's small functions: what each answers. -/
set_option linter.unusedVariables false
namespace Go.Proofs.Ytkiijfgoaeiphaa
open Go.RowKit

theorem word_any (s : ByteArray) (k lo hi : Nat) (w : World) (hs : s.size ≤ maxLen) :
    Calls Try.prog 43 #[.string s, .agg #[.int .i64 k, .int .i64 lo, .int .i64 hi]] w fun e w' => e = .returned (.string (wordOf s ⟨k, lo, hi⟩)) ∧ Below w.heap.size w w' := by
  unfold maxLen at hs
  by_cases h1 : lo ≤ hi
  · by_cases h2 : hi ≤ s.size
    · have e : wordOf s ⟨k, lo, hi⟩ = s.extract lo hi := by simp [wordOf, h1, h2]
      rw [e]; clear e
      go_enter Try.func43, Try.ntmps43
      go_wp2
      go_ret
      exact ⟨rfl, (Below.refl _ _).alloc (Nat.le_refl _) _⟩
    · have e : wordOf s ⟨k, lo, hi⟩ = ⟨#[]⟩ := by simp [wordOf, h1, h2]
      rw [e]; clear e
      go_enter Try.func43, Try.ntmps43
      go_wp2
      go_ret
      exact ⟨rfl, (Below.refl _ _).alloc (Nat.le_refl _) _⟩
  · have e : wordOf s ⟨k, lo, hi⟩ = ⟨#[]⟩ := by simp [wordOf, h1]
    rw [e]; clear e
    go_enter Try.func43, Try.ntmps43
    go_wp2
    go_ret
    exact ⟨rfl, (Below.refl _ _).alloc (Nat.le_refl _) _⟩

theorem is_any (s : ByteArray) (k lo hi : Nat) (word : ByteArray) (w : World) (hs : s.size ≤ maxLen) :
    Calls Try.prog 27 #[.string s, .agg #[.int .i64 k, .int .i64 lo, .int .i64 hi], .string word] w fun e w' => e = .returned (.bool (tokIs s ⟨k, lo, hi⟩ word)) ∧ Below w.heap.size w w' := by
  by_cases h5 : k = 5
  · subst h5
    have e : tokIs s ⟨5, lo, hi⟩ word = ((wordOf s ⟨5, lo, hi⟩).toList == word.toList) := by simp [tokIs]
    rw [e]; clear e
    go_enter Try.func27, Try.ntmps27
    go_wp2_with fail
    refine (word_any s 5 lo hi _ hs).mono ?_
    rintro e w1 ⟨rfl, hb⟩
    go_wp2_with fail
    go_ret
    exact ⟨rfl, ((Below.refl _ _).alloc (Nat.le_refl _) _).trans (hb.mono (by simp))⟩
  · by_cases h6 : k = 6
    · subst h6
      have e : tokIs s ⟨6, lo, hi⟩ word = ((wordOf s ⟨6, lo, hi⟩).toList == word.toList) := by simp [tokIs]
      rw [e]; clear e
      go_enter Try.func27, Try.ntmps27
      go_wp2_with fail
      refine (word_any s 6 lo hi _ hs).mono ?_
      rintro e w1 ⟨rfl, hb⟩
      go_wp2_with fail
      go_ret
      exact ⟨rfl, ((Below.refl _ _).alloc (Nat.le_refl _) _).trans (hb.mono (by simp))⟩
    · have e : tokIs s ⟨k, lo, hi⟩ word = false := by simp [tokIs, h5, h6]
      rw [e]; clear e
      have h5' : ((k : Int) == 5) = false := beq_eq_false_iff_ne.2 (by omega)
      have h6' : ((k : Int) == 6) = false := beq_eq_false_iff_ne.2 (by omega)
      clear h5 h6
      go_enter Try.func27, Try.ntmps27
      go_wp2_with fail
      go_ret
      exact ⟨rfl, (Below.refl _ _).alloc (Nat.le_refl _) _⟩
end Go.Proofs.Ytkiijfgoaeiphaa

/- The parser's first questions and steps: is, kind, next, skip, take, takeKind, fail, enter. -/
set_option linter.unusedVariables false
namespace Go.Proofs.Ytkiijfgoaeiphaa
open Go.RowKit
attribute [local go_sem ↓] Go.wp_at_zero Go.wp_at_succ

abbrev pp (g : Nat) : Value := .pointer (some ⟨g, 0, none⟩)

/-- How a call ends whose answer is told by r. -/
def PostM {α : Type} (x : Cx) (L : Nat → Prop) (enc : α → Value) (w : World) (r : Res α) (e : Ending) (w' : World) : Prop :=
  match r with
  | .ok a st' => e = .returned (enc a) ∧ PW x L w' st' ∧ Keeps x.g L w w'
  | .bad f => e = .panicked [{ v := .iface 25 (.agg #[.int .i64 f.code, .int .i64 f.lo, .int .i64 f.hi]), recovered := false }] ∧ Keeps x.g L w w'
  | .stuck => False
/-- What every call of a function does that reads on. -/
def Meets {α : Type} (x : Cx) (f : FuncId) (args : Array Value) (m : M α) (enc : α → Value) : Prop :=
  ∀ (L : Nat → Prop) (w : World) (st : PSt), PW x L w st → m st ≠ .stuck → Calls Try.prog f args w (PostM x L enc w (m st))

abbrev eN (n : Nat) : Value := .int .i64 n
abbrev eI (n : Int) : Value := .int .i64 n
abbrev eB (b : Bool) : Value := .bool b
abbrev eU (_ : Unit) : Value := .tuple #[]
abbrev eT (t : Tok) : Value := .agg #[.int .i64 t.kind, .int .i64 t.lo, .int .i64 t.hi]
abbrev eS (s : ByteArray) : Value := .string s
abbrev eNB (p : Nat × Bool) : Value := .tuple #[.int .i64 p.1, .bool p.2]

section
variable {x : Cx} {L : Nat → Prop} {w w' : World} {st : PSt}
theorem PW.open (h : PW x L w st) : ∃ nv, w.cell? ⟨x.g, 0, none⟩ = some (.string x.s) ∧ w.cell? ⟨x.g, 1, none⟩ = some x.tv ∧ w.cell? ⟨x.g, 2, none⟩ = some (.int .i64 st.pos) ∧ w.cell? ⟨x.g, 3, none⟩ = some nv ∧
    (∀ o, w.frozen? ⟨x.g, o, none⟩ = false) ∧ ∃ cs, w.ownsRow (x.g + 1) 53 6 nv st.nodes.length cs ∧ NdsIn w L st.nodes cs := by
  obtain ⟨nv, cs, h1, h2, h3, h4⟩ := h.row
  refine ⟨nv, ?_, ?_, ?_, ?_, ?_, cs, h2, h4⟩
  · rw [cell_of_row w x.g 0 _ _ _ h1]; rfl
  · rw [cell_of_row w x.g 1 _ _ _ h1]; rfl
  · rw [cell_of_row w x.g 2 _ _ _ h1]; rfl
  · rw [cell_of_row w x.g 3 _ _ _ h1]; rfl
  · intro o; simp [World.frozen?, h1]
/-- The token that stands at the parser's place. -/
theorem PW.tok (h : PW x L w st) (hlt : st.pos < x.toks.length) : ∃ b o c k lo hi, x.tv = .slice (some ⟨b, o, none⟩) x.toks.length c ∧ x.toks[st.pos]? = some ⟨k, lo, hi⟩ ∧ x.toks.length ≤ 9223372036854775807 ∧ b < x.g ∧
    w.cell? ⟨b, o + st.pos * 3, none⟩ = some (.int .i64 k) ∧ w.cell? ⟨b, o + st.pos * 3 + 1, none⟩ = some (.int .i64 lo) ∧ w.cell? ⟨b, o + st.pos * 3 + 2, none⟩ = some (.int .i64 hi) := by
  obtain ⟨a, c, h1, h2, h3⟩ := h.toks
  obtain ⟨b, o, e, hb, hc⟩ := h3 (by intro e; simp [e] at hlt)
  subst e
  have hg := List.getElem?_eq_getElem hlt
  refine ⟨b, o, c, (x.toks[st.pos]).kind, (x.toks[st.pos]).lo, (x.toks[st.pos]).hi, h1, hg, by simpa [maxLen] using h2, hb, ?_, ?_, ?_⟩
  · exact hc _ _ hg 0 _ rfl
  · exact hc _ _ hg 1 _ rfl
  · exact hc _ _ hg 2 _ rfl
theorem PW.notok (h : PW x L w st) : ∃ a c, x.tv = .slice a x.toks.length c ∧ x.toks.length ≤ 9223372036854775807 := by
  obtain ⟨a, c, h1, h2, _⟩ := h.toks
  exact ⟨a, c, h1, by simpa [maxLen] using h2⟩
/-- Nothing but new memory. -/
theorem PW.below (h : PW x L w st) (hb : Below w.heap.size w w') : PW x L w' st := by
  have hg := h.glt
  exact h.frame hb.size (fun i hi => by have := h.bound i hi; have := hb.size; omega) (fun i hi _ => hi) (fun i hi _ => hb.block i hi) (fun i hi => hb.block i (by omega))
theorem PW.keepsB (h : PW x L w st) (hb : Below w.heap.size w w') : Keeps x.g L w w' :=
  ⟨hb.os, hb.tape, hb.output, hb.size, fun i hi => hb.block i (by have := h.glt; omega), fun i hi => hb.block i (h.bound i hi)⟩
theorem below_drewN (w : World) (n : Nat) : Below w.heap.size w (w.drewN n) := ⟨rfl, rfl, rfl, Nat.le_refl _, fun _ _ => rfl⟩
end

theorem cast_beq (a b : Nat) : ((a : Int) == (b : Int)) = (a == b) := by
  rw [Bool.eq_iff_iff]; simp; omega

/-- A question that only looks, and what follows from it. -/
theorem PostM.asked {α : Type} {x : Cx} {L : Nat → Prop} {w : World} {st : PSt} (hp : PW x L w st) (q : PSt → α) (enc : α → Value) {v : Value} (hv : v = enc (q st)) {w' : World} (hw : Below w.heap.size w w') :
    PostM x L enc w (ask q st) (.returned v) w' := by
  subst hv
  exact ⟨rfl, hp.below hw, hp.keepsB hw⟩

/-- A call met by its contract: what follows where it answers, and where it panics. -/
theorem Meets.use {α : Type} {x : Cx} {f : FuncId} {args : Array Value} {m : M α} {enc : α → Value} (h : Meets x f args m enc) {L : Nat → Prop} {w : World} {st : PSt} {R : Ending → World → Prop} (hp : PW x L w st) (hns : m st ≠ .stuck)
    (hok : ∀ a st' w', m st = .ok a st' → PW x L w' st' → Keeps x.g L w w' → R (.returned (enc a)) w')
    (hbad : ∀ fl w', m st = .bad fl → Keeps x.g L w w' → R (.panicked [{ v := .iface 25 (.agg #[.int .i64 fl.code, .int .i64 fl.lo, .int .i64 fl.hi]), recovered := false }]) w') : Calls Try.prog f args w R := by
  refine (h L w st hp hns).mono fun e w' hq => ?_
  cases hm : m st with
  | ok a st' =>
    rw [hm] at hq
    obtain ⟨rfl, h1, h2⟩ := hq
    exact hok a st' w' hm h1 h2
  | bad fl =>
    rw [hm] at hq
    obtain ⟨rfl, h2⟩ := hq
    exact hbad fl w' hm h2
  | stuck => exact absurd hm hns
/-- A question's call. -/
theorem Meets.asks {α : Type} {x : Cx} {f : FuncId} {args : Array Value} {q : PSt → α} {enc : α → Value} (h : Meets x f args (ask q) enc) {L : Nat → Prop} {w : World} {st : PSt} {R : Ending → World → Prop} (hp : PW x L w st)
    {a : α} (ha : q st = a) (hok : ∀ w', PW x L w' st → Keeps x.g L w w' → R (.returned (enc a)) w') : Calls Try.prog f args w R := by
  subst ha
  refine h.use hp (by simp [ask]) (fun a st' w' he h1 h2 => ?_) (fun fl w' he _ => by simp [ask] at he)
  simp only [ask, Res.ok.injEq] at he
  obtain ⟨rfl, rfl⟩ := he
  exact hok w' h1 h2

theorem kind_any (x : Cx) (k : Nat) : Meets x 60 #[pp x.g, .int .i64 k] (ask (isK x.toTxt k)) eB := by
  intro L w st hp _
  obtain ⟨nv, c0, c1, c2, c3, fz, _⟩ := hp.open
  by_cases hlt : st.pos < x.toks.length
  · obtain ⟨b, o, c, kk, lo, hi, e1, e2, e3, e4, t0, t1, t2⟩ := hp.tok hlt
    have hv : Sec (Value.bool ((kk : Int) == (k : Int)) = eB (isK x.toTxt k st)) := ⟨by simp only [isK, e2, eB, cast_beq]⟩
    have hd : (st.pos : Int) < (x.toks.length : Int) := by omega
    rw [e1] at c1
    clear e1 e2 c0 c3 fz t1 t2
    go_enter Try.func60, Try.ntmps60
    go_wp2
    go_quiet (fail)
    go_wp2
    go_ret
    exact PostM.asked hp _ _ hv.out (below_drewN _ _)
  · obtain ⟨a, c, e1, e3⟩ := hp.notok
    have hv : Sec (Value.bool false = eB (isK x.toTxt k st)) := ⟨by simp only [isK, eB]; rw [List.getElem?_eq_none (by omega)]⟩
    have hd : decide ((st.pos : Int) < (x.toks.length : Int)) = false := by simp; omega
    rw [e1] at c1
    clear e1 c0 c3 fz
    go_enter Try.func60, Try.ntmps60
    go_wp2
    go_quiet (fail)
    go_wp2
    go_ret
    exact PostM.asked hp _ _ hv.out (below_drewN _ _)

theorem is_any' (x : Cx) (word : ByteArray) : Meets x 48 #[pp x.g, .string word] (ask (isW x.toTxt word)) eB := by
  intro L w st hp _
  obtain ⟨nv, c0, c1, c2, c3, fz, _⟩ := hp.open
  have hs := hp.ssz
  by_cases hlt : st.pos < x.toks.length
  · obtain ⟨b, o, c, kk, lo, hi, e1, e2, e3, e4, t0, t1, t2⟩ := hp.tok hlt
    have hv : Sec (Value.bool (tokIs x.s ⟨kk, lo, hi⟩ word) = eB (isW x.toTxt word st)) := ⟨by simp only [isW, e2, eB]⟩
    have hd : (st.pos : Int) < (x.toks.length : Int) := by omega
    have hg := hp.glt
    have hgb : b < w.heap.size := by omega
    rw [e1] at c1
    clear e1 e2 c3 fz
    go_enter Try.func48, Try.ntmps48
    go_wp2
    go_region_held3 (fun w' => w'.cell? ⟨x.g, 0, none⟩ = some (.string x.s) ∧ w'.cell? ⟨x.g, 1, none⟩ = some (.slice (some ⟨b, o, none⟩) x.toks.length c) ∧ w'.cell? ⟨x.g, 2, none⟩ = some (.int .i64 st.pos) ∧ w'.cell? ⟨b, o + st.pos * 3, none⟩ = some (.int .i64 kk) ∧ w'.cell? ⟨b, o + st.pos * 3 + 1, none⟩ = some (.int .i64 lo) ∧ w'.cell? ⟨b, o + st.pos * 3 + 2, none⟩ = some (.int .i64 hi)) (first | (exact ⟨(hb.cell hg).trans c0, (hb.cell hg).trans c1, (hb.cell hg).trans c2, (hb.cell hgb).trans t0, (hb.cell hgb).trans t1, (hb.cell hgb).trans t2⟩) | go_keep) (((go_at_call 27; refine (is_any x.s kk lo hi word _ hs).mono ?_; rintro e w1 ⟨rfl, hb⟩)))
    go_wp2
    go_ret
    exact PostM.asked hp _ _ hv.out ⟨hb.os, hb.tape, hb.output, hb.size, hb.block⟩
  · obtain ⟨a, c, e1, e3⟩ := hp.notok
    have hv : Sec (Value.bool false = eB (isW x.toTxt word st)) := ⟨by simp only [isW, eB]; rw [List.getElem?_eq_none (by omega)]⟩
    have hd : decide ((st.pos : Int) < (x.toks.length : Int)) = false := by simp; omega
    rw [e1] at c1
    clear e1 c0 c3 fz
    go_enter Try.func48, Try.ntmps48
    go_wp2
    go_quiet (fail)
    go_wp2
    go_ret
    exact PostM.asked hp _ _ hv.out (below_drewN _ _)
end Go.Proofs.Ytkiijfgoaeiphaa

/- The parser's steps: next, skip, take, takeKind, fail, enter. -/
set_option linter.unusedVariables false
namespace Go.Proofs.Ytkiijfgoaeiphaa
open Go.RowKit
attribute [local go_sem ↓] Go.wp_at_zero Go.wp_at_succ

section
variable {x : Cx} {L : Nat → Prop} {w w' : World} {st : PSt}
/-- The place turns. -/
theorem PW.setPos (h : PW x L w st) (n : Nat) (hn : n ≤ x.toks.length) : PW x L (w.setCell ⟨x.g, 2, none⟩ (.int .i64 n)) { st with pos := n } := by
  obtain ⟨nv, cs, h1, h2, h3, h4⟩ := h.row
  have hg := h.glt
  refine ⟨fun i hi => by simpa using h.bound i hi, by simpa using hg, h.gL, h.toks.keep fun a ha => World.cell?_of_block (Below.heap_setCell _ _ _ _ (by simp at ha ⊢; omega)), hn, h.small, h.ssz, nv, cs, ?_, ?_, h3, h4.keep fun b cur fr hb hh => ⟨hb, Below.heap_setCell _ _ _ _ (fun e => ?_)⟩⟩
  · simp [World.setCell, Array.getElem?_modify, h1]
  · refine ownsRow_of_heap h2 fun k hk => Below.heap_setCell _ _ _ _ (fun e => ?_)
    have := (h2.lt k hk).1
    simp at e; omega
  · simp at e; subst e; rw [h1] at hh; simp at hh
theorem keeps_setG (w : World) (hgL : ¬ L x.g) (o : Nat) (v : Value) : Keeps x.g L w (w.setCell ⟨x.g, o, none⟩ v) := (Keeps.refl x.g L w).set (a := ⟨x.g, o, none⟩) (Nat.le_refl _) hgL v
end

theorem next_any (x : Cx) : Meets x 66 #[pp x.g] (next x.toTxt) eT := by
  intro L w st hp hns
  have hlt : st.pos < x.toks.length := by
    rcases Nat.lt_or_ge st.pos x.toks.length with h | h
    · exact h
    · exact absurd (by simp only [next]; rw [List.getElem?_eq_none h]) hns
  obtain ⟨nv, c0, c1, c2, c3, fz, _⟩ := hp.open
  obtain ⟨b, o, c, kk, lo, hi, e1, e2, e3, e4, t0, t1, t2⟩ := hp.tok hlt
  have hspec : Sec (next x.toTxt st = .ok ⟨kk, lo, hi⟩ { st with pos := st.pos + 1 }) := ⟨by simp only [next, e2]⟩
  have hd : (st.pos : Int) < (x.toks.length : Int) := by omega
  have hg := hp.glt
  have hgb : b < w.heap.size := by omega
  have hne : ¬ b = x.g := by omega
  have hne' : ¬ x.g = b := by omega
  have fin : Sec (∀ w2, Below w.heap.size (w.setCell ⟨x.g, 2, none⟩ (.int .i64 ((st.pos : Int) + 1))) w2 → PostM x L eT w (next x.toTxt st) (.returned (eT ⟨kk, lo, hi⟩)) w2) := by
    constructor
    intro w2 hb
    rw [hspec.out]
    have h1 := hp.setPos (st.pos + 1) (by omega)
    rw [show ((st.pos + 1 : Nat) : Int) = (st.pos : Int) + 1 from by omega] at h1
    have hb' : Below (w.setCell ⟨x.g, 2, none⟩ (.int .i64 ((st.pos : Int) + 1))).heap.size (w.setCell ⟨x.g, 2, none⟩ (.int .i64 ((st.pos : Int) + 1))) w2 := by simpa using hb
    exact ⟨rfl, h1.below hb', (keeps_setG w hp.gL _ _).trans (h1.keepsB hb')⟩
  rw [e1] at c1
  clear e1 e2 c3 hspec hns
  generalize hPost : PostM x L eT w (next x.toTxt st) = Post at fin ⊢
  have f2 := fz 2
  clear fz hPost
  have k1 : (w.setCell ⟨x.g, 2, none⟩ (.int .i64 ((st.pos : Int) + 1))).cell? ⟨x.g, 1, none⟩ = some (.slice (some ⟨b, o, none⟩) x.toks.length c) := (World.cell?_setCell_other _ _ _ _ (by simp)).trans c1
  have hwr : IntKind.i64.wrap (st.pos : Int) = (st.pos : Int) := IntWalk.i64_in _ (by omega)
  have h0 : (0 : Int) ≤ (st.pos : Int) := by omega
  have k2 : (w.setCell ⟨x.g, 2, none⟩ (.int .i64 ((st.pos : Int) + 1))).cell? ⟨x.g, 2, none⟩ = some (.int .i64 ((st.pos : Int) + 1)) := World.cell?_setCell_same _ _ _ c2
  go_enter Try.func66, Try.ntmps66
  go_wp2
  go_region_held3 (fun w' => w'.cell? ⟨x.g, 1, none⟩ = some (.slice (some ⟨b, o, none⟩) x.toks.length c) ∧ w'.cell? ⟨x.g, 2, none⟩ = some (.int .i64 ((st.pos : Int) + 1)) ∧ w'.cell? ⟨b, o + st.pos * 3, none⟩ = some (.int .i64 kk) ∧ w'.cell? ⟨b, o + st.pos * 3 + 1, none⟩ = some (.int .i64 lo) ∧ w'.cell? ⟨b, o + st.pos * 3 + 2, none⟩ = some (.int .i64 hi)) (go_keep) (fail)
  go_wp2
  refine bodyPost_ret (v := eT ⟨kk, lo, hi⟩) (by simp [results, Try.results66, go_sem, eT]) rfl ?_
  exact fin.out _ ((((Below.refl _ _).alloc (by simp) _).drew))

theorem skip_any (x : Cx) (word : ByteArray) : Meets x 64 #[pp x.g, .string word] (skip x.toTxt word) eB := by
  intro L w st hp hns
  cases hb : isW x.toTxt word st with
  | true =>
    have hlt : st.pos < x.toks.length := by
      rcases Nat.lt_or_ge st.pos x.toks.length with h | h
      · exact h
      · simp only [isW] at hb; rw [List.getElem?_eq_none h] at hb; cases hb
    have hspec : Sec (skip x.toTxt word st = .ok true { st with pos := st.pos + 1 }) := ⟨by simp only [skip, hb, if_true]⟩
    generalize hPost : PostM x L eB w (skip x.toTxt word st) = Post
    have e0 := Sec.mk hPost; clear hPost
    have hB := Sec.mk hb; clear hb
    go_enter Try.func64, Try.ntmps64
    go_wp2_with fail
    refine (is_any' x word).asks hp hB.out fun w1 hp1 hk1 => ?_
    dsimp only [eB]
    obtain ⟨nv, c0, c1, c2, c3, fz, _⟩ := hp1.open
    have f2 := fz 2
    obtain ⟨a, c, e1, e3⟩ := hp.notok
    have hd : (st.pos : Int) < (x.toks.length : Int) := by omega
    clear fz c0 c1 c3 e1
    go_wp2_with fail
    rw [← e0.out, hspec.out]
    have h1 := hp1.setPos (st.pos + 1) (by omega)
    rw [show ((st.pos + 1 : Nat) : Int) = (st.pos : Int) + 1 from by omega] at h1
    exact ⟨rfl, h1, hk1.trans (keeps_setG w1 hp.gL _ _)⟩
  | false =>
    have hspec : Sec (skip x.toTxt word st = .ok false st) := ⟨by simp only [skip, hb, Bool.false_eq_true, if_false]⟩
    generalize hPost : PostM x L eB w (skip x.toTxt word st) = Post
    have e0 := Sec.mk hPost; clear hPost
    have hB := Sec.mk hb; clear hb
    go_enter Try.func64, Try.ntmps64
    go_wp2_with fail
    refine (is_any' x word).asks hp hB.out fun w1 hp1 hk1 => ?_
    dsimp only [eB]
    go_wp2_with fail
    rw [← e0.out, hspec.out]
    exact ⟨rfl, hp1, hk1⟩
end Go.Proofs.Ytkiijfgoaeiphaa

/- The parser's fault, and the steps that may end in it: fail, enter, take, takeKind; rec. -/
set_option linter.unusedVariables false
namespace Go.Proofs.Ytkiijfgoaeiphaa
open Go.RowKit
attribute [local go_sem ↓] Go.wp_at_zero Go.wp_at_succ

/-- How a panic of the parser looks. -/
abbrev pfl (fl : Flt) : Ending := .panicked [{ v := .iface 25 (.agg #[.int .i64 fl.code, .int .i64 fl.lo, .int .i64 fl.hi]), recovered := false }]

set_option maxRecDepth 100000 in
theorem fail_any (x : Cx) (code : Nat) : Meets x 34 #[pp x.g, .int .i64 code] (fail x.toTxt code : M Unit) eU := by
  intro L w st hp _
  obtain ⟨nv, c0, c1, c2, c3, fz, _⟩ := hp.open
  have hg := hp.glt
  by_cases hlt : st.pos < x.toks.length
  · obtain ⟨b, o, c, kk, lo, hi, e1, e2, e3, e4, t0, t1, t2⟩ := hp.tok hlt
    have hspec : Sec ((fail x.toTxt code : M Unit) st = .bad ⟨code, lo, hi⟩) := ⟨by simp only [fail, e2]⟩
    have fin : Sec (∀ w', Below w.heap.size w w' → PostM x L eU w ((fail x.toTxt code : M Unit) st) (pfl ⟨code, lo, hi⟩) w') := ⟨fun w' hb => by rw [hspec.out]; exact ⟨rfl, hp.keepsB hb⟩⟩
    have hd : (st.pos : Int) < (x.toks.length : Int) := by omega
    have h0 : (0 : Int) ≤ (st.pos : Int) := by omega
    rw [e1] at c1
    clear e1 e2 fz hspec c3
    generalize hPost : PostM x L eU w ((fail x.toTxt code : M Unit) st) = Post at fin ⊢
    clear hPost
    go_enter Try.func34, Try.ntmps34
    go_wp2
    go_quiet (fail)
    go_wp2
    refine wp_tail 25 (by kernel_rfl) (by kernel_rfl) fun W hc hf hz hW => ?_
    simp only [List.take_succ_cons, List.take_zero, List.drop_succ_cons, List.drop_zero]
    repeat still_step
    refine wpStill_nil ?_
    go_wp2
    exact ⟨rfl, fin.out _ (by rw [hW.out]; exact (below_drewN _ _).drew)⟩
  · obtain ⟨a, c, e1, e3⟩ := hp.notok
    have hspec : Sec ((fail x.toTxt code : M Unit) st = .bad ⟨code, x.s.size, x.s.size⟩) := ⟨by simp only [fail]; rw [List.getElem?_eq_none (by omega)]⟩
    have fin : Sec (∀ w', Below w.heap.size w w' → PostM x L eU w ((fail x.toTxt code : M Unit) st) (pfl ⟨code, x.s.size, x.s.size⟩) w') := ⟨fun w' hb => by rw [hspec.out]; exact ⟨rfl, hp.keepsB hb⟩⟩
    have hd : decide ((st.pos : Int) < (x.toks.length : Int)) = false := by simp; omega
    have hsz := hp.ssz
    unfold maxLen at hsz
    rw [e1] at c1
    clear e1 fz hspec c3
    generalize hPost : PostM x L eU w ((fail x.toTxt code : M Unit) st) = Post at fin ⊢
    clear hPost
    go_enter Try.func34, Try.ntmps34
    go_wp2
    go_quiet (fail)
    go_wp2
    refine wp_tail 13 (by kernel_rfl) (by kernel_rfl) fun W hc hf hz hW => ?_
    simp only [List.take_succ_cons, List.take_zero, List.drop_succ_cons, List.drop_zero]
    repeat still_step
    refine wpStill_nil ?_
    go_wp2
    exact ⟨rfl, fin.out _ (by rw [hW.out]; exact (below_drewN _ _).drew)⟩

theorem Keeps.toBad {α : Type} {x : Cx} {L : Nat → Prop} {enc : α → Value} {w w' : World} {m : M α} {st : PSt} {fl : Flt} (h : m st = .bad fl) (hk : Keeps x.g L w w') : PostM x L enc w (m st) (pfl fl) w' := by
  rw [h]; exact ⟨rfl, hk⟩
theorem PW.toOk {α : Type} {x : Cx} {L : Nat → Prop} {enc : α → Value} {w w' : World} {m : M α} {st st' : PSt} {a : α} (h : m st = .ok a st') (hp : PW x L w' st') (hk : Keeps x.g L w w') : PostM x L enc w (m st) (.returned (enc a)) w' := by
  rw [h]; exact ⟨rfl, hp, hk⟩

theorem fail_alike {x : Txt} {α β : Type} {code : Nat} {st : PSt} {fl : Flt} (h : (fail x code : M α) st = .bad fl) : (fail x code : M β) st = .bad fl := by
  simp only [fail] at h ⊢
  split at h <;> (cases h; rfl)
/-- 'fail' never comes back. -/
theorem Meets.fails {x : Cx} {f : FuncId} {args : Array Value} {code : Nat} (h : Meets x f args (fail x.toTxt code : M Unit) eU) {L : Nat → Prop} {w : World} {st : PSt} {R : Ending → World → Prop} (hp : PW x L w st)
    (hbad : ∀ fl w', (fail x.toTxt code : M Unit) st = .bad fl → Keeps x.g L w w' → R (pfl fl) w') : Calls Try.prog f args w R := by
  refine h.use hp (fun hs => ?_) (fun a st' w' he _ _ => ?_) hbad
  · simp only [fail] at hs; split at hs <;> cases hs
  · simp only [fail] at he; split at he <;> cases he

theorem enter_any (x : Cx) (d : Nat) (hd : d ≤ 65) : Meets x 69 #[pp x.g, .int .i64 d] (enter x.toTxt d) eU := by
  intro L w st hp hns
  by_cases h : 64 < d
  · have hs : Sec (enter x.toTxt d st = (fail x.toTxt 2 : M Unit) st) := ⟨by simp only [enter, h, if_true]⟩
    rw [hs.out] at hns ⊢
    clear hs
    generalize hPost : PostM x L eU w ((fail x.toTxt 2 : M Unit) st) = Post
    have e0 := Sec.mk hPost; clear hPost
    have hn0 := Sec.mk hns; clear hns
    have hI : (64 : Int) < (d : Int) := by omega
    go_enter Try.func69, Try.ntmps69
    go_wp2_with fail
    refine (fail_any x 2).use hp hn0.out (fun a st' w' he h1 h2 => ?_) (fun fl w' he h2 => ?_)
    · exfalso
      simp only [fail] at he
      split at he <;> cases he
    · exact ⟨rfl, by rw [← e0.out]; exact h2.toBad he⟩
  · have hs : Sec (enter x.toTxt d st = .ok () st) := ⟨by simp only [enter, h, if_false]; rfl⟩
    generalize hPost : PostM x L eU w (enter x.toTxt d st) = Post
    have e0 := Sec.mk hPost; clear hPost
    have hI : ¬ (64 : Int) < (d : Int) := by omega
    go_enter Try.func69, Try.ntmps69
    go_wp2_with fail
    go_end0
    rw [← e0.out]
    exact hp.toOk hs.out (Keeps.refl _ _ _)
end Go.Proofs.Ytkiijfgoaeiphaa

/- take, takeKind, rec. -/
set_option linter.unusedVariables false
namespace Go.Proofs.Ytkiijfgoaeiphaa
open Go.RowKit
attribute [local go_sem ↓] Go.wp_at_zero Go.wp_at_succ

theorem skip_lt {x : Cx} {word : ByteArray} {st : PSt} (h : isW x.toTxt word st = true) : st.pos < x.toks.length := by
  rcases Nat.lt_or_ge st.pos x.toks.length with hl | hl
  · exact hl
  · simp only [isW] at h; rw [List.getElem?_eq_none hl] at h; cases h
/-- Three cells of one's own are written. -/
theorem PW.set3 {x : Cx} {L : Nat → Prop} {w : World} {st : PSt} {b : Nat} (h : PW x L w st) (ha : L b) (hb : x.g ≤ b) (u v z : Value) :
    PW x L (((w.setCell ⟨b, 0, none⟩ u).setCell ⟨b, 1, none⟩ v).setCell ⟨b, 2, none⟩ z) st := ((h.set (a := ⟨b, 0, none⟩) ha hb u).set (a := ⟨b, 1, none⟩) ha hb v).set (a := ⟨b, 2, none⟩) ha hb z
theorem Keeps.set3 {g : Nat} {L : Nat → Prop} {w w1 : World} {b : Nat} (h : Keeps g L w w1) (hg : g ≤ b) (hl : ¬ L b) (u v z : Value) :
    Keeps g L w (((w1.setCell ⟨b, 0, none⟩ u).setCell ⟨b, 1, none⟩ v).setCell ⟨b, 2, none⟩ z) := ((h.set (a := ⟨b, 0, none⟩) hg hl u).set (a := ⟨b, 1, none⟩) hg hl v).set (a := ⟨b, 2, none⟩) hg hl z

theorem set3_cells {w : World} {b : Nat} {p q r : Value} (h0 : w.cell? ⟨b, 0, none⟩ = some p) (h1 : w.cell? ⟨b, 1, none⟩ = some q) (h2 : w.cell? ⟨b, 2, none⟩ = some r) (u v z : Value) :
    (((w.setCell ⟨b, 0, none⟩ u).setCell ⟨b, 1, none⟩ v).setCell ⟨b, 2, none⟩ z).cell? ⟨b, 0, none⟩ = some u ∧ (((w.setCell ⟨b, 0, none⟩ u).setCell ⟨b, 1, none⟩ v).setCell ⟨b, 2, none⟩ z).cell? ⟨b, 1, none⟩ = some v ∧
      (((w.setCell ⟨b, 0, none⟩ u).setCell ⟨b, 1, none⟩ v).setCell ⟨b, 2, none⟩ z).cell? ⟨b, 2, none⟩ = some z := by
  refine ⟨?_, ?_, ?_⟩
  · rw [World.cell?_setCell_other _ _ _ _ (by simp), World.cell?_setCell_other _ _ _ _ (by simp)]
    exact World.cell?_setCell_same _ _ _ h0
  · rw [World.cell?_setCell_other _ _ _ _ (by simp)]
    exact World.cell?_setCell_same (u := q) _ _ _ (by rw [World.cell?_setCell_other _ _ _ _ (by simp)]; exact h1)
  · exact World.cell?_setCell_same (u := r) _ _ _ (by rw [World.cell?_setCell_other _ _ _ _ (by simp), World.cell?_setCell_other _ _ _ _ (by simp)]; exact h2)

/-- A result variable of three cells: laid first, written last. -/
structure TokBox (x : Cx) (L : Nat → Prop) (w w2 : World) (st' : PSt) : Prop where
  d0 : w2.cell? ⟨w.heap.size, 0, none⟩ = some (.int .i64 0)
  d1 : w2.cell? ⟨w.heap.size, 1, none⟩ = some (.int .i64 0)
  d2 : w2.cell? ⟨w.heap.size, 2, none⟩ = some (.int .i64 0)
  f0 : w2.frozen? ⟨w.heap.size, 0, none⟩ = false
  f1 : w2.frozen? ⟨w.heap.size, 1, none⟩ = false
  f2 : w2.frozen? ⟨w.heap.size, 2, none⟩ = false
  fin : ∀ u v z, PW x L (((w2.setCell ⟨w.heap.size, 0, none⟩ u).setCell ⟨w.heap.size, 1, none⟩ v).setCell ⟨w.heap.size, 2, none⟩ z) st' ∧ Keeps x.g L w (((w2.setCell ⟨w.heap.size, 0, none⟩ u).setCell ⟨w.heap.size, 1, none⟩ v).setCell ⟨w.heap.size, 2, none⟩ z)
theorem TokBox.mk' {x : Cx} {L : Nat → Prop} {w w2 : World} {st st' : PSt} (hp : PW x L w st) (hp2 : PW x (fun i => L i ∨ i = w.heap.size) w2 st')
    (hk : Keeps x.g (fun i => L i ∨ i = w.heap.size) (w.alloc (.cells #[.int .i64 0, .int .i64 0, .int .i64 0] 31)) w2) : TokBox x L w w2 st' := by
  have hg := hp.glt
  have hLs : ¬ L w.heap.size := fun h => by have := hp.bound _ h; omega
  have hk0 : Keeps x.g L w (w.alloc (.cells #[.int .i64 0, .int .i64 0, .int .i64 0] 31)) := (Keeps.refl _ _ _).alloc (by omega) hp.bound _
  refine ⟨(hk.cell (.inr (.inr rfl))).trans (by simp), (hk.cell (.inr (.inr rfl))).trans (by simp), (hk.cell (.inr (.inr rfl))).trans (by simp), (hk.frozen (.inr (.inr rfl))).trans (by simp), (hk.frozen (.inr (.inr rfl))).trans (by simp), (hk.frozen (.inr (.inr rfl))).trans (by simp), fun u v z => ⟨?_, ?_⟩⟩
  · exact (hp2.set3 (b := w.heap.size) (.inr rfl) (by omega) u v z).weaken fun i hi => .inl hi
  · exact (hk0.trans (hk.weaken fun i hi => .inl hi)).set3 (by omega) hLs u v z

theorem take_any (x : Cx) (word : ByteArray) : Meets x 50 #[pp x.g, .string word] (take x.toTxt word) eT := by
  intro L w st hp hns
  have hp0 := hp.alloc_own (.cells #[.int .i64 0, .int .i64 0, .int .i64 0] 31)
  have hk0 : Keeps x.g L w (w.alloc (.cells #[.int .i64 0, .int .i64 0, .int .i64 0] 31)) := (Keeps.refl _ _ _).alloc (by have := hp.glt; omega) hp.bound _
  cases hb : isW x.toTxt word st with
  | true =>
    have hs : Sec (take x.toTxt word st = next x.toTxt st) := ⟨by simp only [take, hb, if_true]⟩
    have hns' : Sec (next x.toTxt st ≠ .stuck) := ⟨by rw [← hs.out]; exact hns⟩
    clear hns
    generalize hPost : PostM x L eT w (take x.toTxt word st) = Post
    have e0 := Sec.mk hPost; clear hPost
    have hB := Sec.mk hb; clear hb
    go_enter Try.func50, Try.ntmps50
    go_wp2_with fail
    refine (is_any' x word).asks hp0 hB.out fun w1 hp1 hk1 => ?_
    dsimp only [eB]
    go_wp2_with fail
    refine (next_any x).use hp1 hns'.out (fun t st' w2 he hp2 hk2 => ?_) (fun fl w2 he hk2 => ?_)
    · obtain ⟨d0, d1, d2, f0, f1, f2, fin⟩ := TokBox.mk' hp hp2 (hk1.trans hk2)
      have fin' := Sec.mk fin; clear fin
      have hE := Sec.mk he; clear he
      dsimp only [eT]
      go_wp2_with fail
      obtain ⟨k0, k1, k2⟩ := set3_cells d0 d1 d2 (.int .i64 t.kind) (.int .i64 t.lo) (.int .i64 t.hi)
      refine bodyPost_ret (v := eT t) (by simp [results, Try.results50, go_sem, eT, k0, k1, k2]) rfl ?_
      obtain ⟨g1, g2⟩ := fin'.out (.int .i64 t.kind) (.int .i64 t.lo) (.int .i64 t.hi)
      rw [← e0.out]
      exact g1.toOk (hs.out.trans hE.out) g2
    · refine ⟨rfl, ?_⟩
      rw [← e0.out]
      exact Keeps.toBad (hs.out.trans he) (hk0.trans ((hk1.trans hk2).weaken fun i hi => .inl hi))
  | false =>
    have hs : Sec (take x.toTxt word st = (fail x.toTxt 1 : M Tok) st) := ⟨by simp only [take, hb, Bool.false_eq_true, if_false]⟩
    generalize hPost : PostM x L eT w (take x.toTxt word st) = Post
    have e0 := Sec.mk hPost; clear hPost
    have hB := Sec.mk hb; clear hb
    go_enter Try.func50, Try.ntmps50
    go_wp2_with fail
    refine (is_any' x word).asks hp0 hB.out fun w1 hp1 hk1 => ?_
    dsimp only [eB]
    go_wp2_with fail
    refine (fail_any x 1).fails hp1 fun fl w2 he hk2 => ?_
    refine ⟨rfl, ?_⟩
    rw [← e0.out]
    exact Keeps.toBad (hs.out.trans (fail_alike he)) (hk0.trans ((hk1.trans hk2).weaken fun i hi => .inl hi))

theorem takeKind_any (x : Cx) (k : Nat) : Meets x 63 #[pp x.g, .int .i64 k] (takeKind x.toTxt k) eT := by
  intro L w st hp hns
  have hp0 := hp.alloc_own (.cells #[.int .i64 0, .int .i64 0, .int .i64 0] 31)
  have hk0 : Keeps x.g L w (w.alloc (.cells #[.int .i64 0, .int .i64 0, .int .i64 0] 31)) := (Keeps.refl _ _ _).alloc (by have := hp.glt; omega) hp.bound _
  cases hb : isK x.toTxt k st with
  | true =>
    have hs : Sec (takeKind x.toTxt k st = next x.toTxt st) := ⟨by simp only [takeKind, hb, if_true]⟩
    have hns' : Sec (next x.toTxt st ≠ .stuck) := ⟨by rw [← hs.out]; exact hns⟩
    clear hns
    generalize hPost : PostM x L eT w (takeKind x.toTxt k st) = Post
    have e0 := Sec.mk hPost; clear hPost
    have hB := Sec.mk hb; clear hb
    go_enter Try.func63, Try.ntmps63
    go_wp2_with fail
    refine (kind_any x k).asks hp0 hB.out fun w1 hp1 hk1 => ?_
    dsimp only [eB]
    go_wp2_with fail
    refine (next_any x).use hp1 hns'.out (fun t st' w2 he hp2 hk2 => ?_) (fun fl w2 he hk2 => ?_)
    · obtain ⟨d0, d1, d2, f0, f1, f2, fin⟩ := TokBox.mk' hp hp2 (hk1.trans hk2)
      have fin' := Sec.mk fin; clear fin
      have hE := Sec.mk he; clear he
      dsimp only [eT]
      go_wp2_with fail
      obtain ⟨k0, k1, k2⟩ := set3_cells d0 d1 d2 (.int .i64 t.kind) (.int .i64 t.lo) (.int .i64 t.hi)
      refine bodyPost_ret (v := eT t) (by simp [results, Try.results63, go_sem, eT, k0, k1, k2]) rfl ?_
      obtain ⟨g1, g2⟩ := fin'.out (.int .i64 t.kind) (.int .i64 t.lo) (.int .i64 t.hi)
      rw [← e0.out]
      exact g1.toOk (hs.out.trans hE.out) g2
    · refine ⟨rfl, ?_⟩
      rw [← e0.out]
      exact Keeps.toBad (hs.out.trans he) (hk0.trans ((hk1.trans hk2).weaken fun i hi => .inl hi))
  | false =>
    have hs : Sec (takeKind x.toTxt k st = (fail x.toTxt 1 : M Tok) st) := ⟨by simp only [takeKind, hb, Bool.false_eq_true, if_false]⟩
    generalize hPost : PostM x L eT w (takeKind x.toTxt k st) = Post
    have e0 := Sec.mk hPost; clear hPost
    have hB := Sec.mk hb; clear hb
    go_enter Try.func63, Try.ntmps63
    go_wp2_with fail
    refine (kind_any x k).asks hp0 hB.out fun w1 hp1 hk1 => ?_
    dsimp only [eB]
    go_wp2_with fail
    refine (fail_any x 1).fails hp1 fun fl w2 he hk2 => ?_
    refine ⟨rfl, ?_⟩
    rw [← e0.out]
    exact Keeps.toBad (hs.out.trans (fail_alike he)) (hk0.trans ((hk1.trans hk2).weaken fun i hi => .inl hi))

theorem rec_any (x : Cx) : Meets x 51 #[pp x.g] (recM x.toTxt) eN := by
  intro L w st hp hns
  have hsk : skip x.toTxt ⟨#[114, 101, 99]⟩ st ≠ .stuck := fun h => by simp only [skip] at h; split at h <;> cases h
  generalize hPost : PostM x L eN w (recM x.toTxt st) = Post
  have e0 := Sec.mk hPost; clear hPost
  have hn0 := Sec.mk hsk; clear hsk hns
  go_enter Try.func51, Try.ntmps51
  go_wp2_with fail
  refine (skip_any x _).use hp hn0.out (fun b st' w1 he hp1 hk1 => ?_) (fun fl w1 he hk1 => ?_)
  · have hE := Sec.mk he; clear he
    dsimp only [eB]
    cases b with
    | true =>
      go_wp2_with fail
      rw [← e0.out]
      exact hp1.toOk (m := recM x.toTxt) (M.bind_ok hE.out) hk1
    | false =>
      go_wp2_with fail
      rw [← e0.out]
      exact hp1.toOk (m := recM x.toTxt) (M.bind_ok hE.out) hk1
  · refine ⟨rfl, ?_⟩
    rw [← e0.out]
    exact Keeps.toBad (M.bind_bad he) hk1
end Go.Proofs.Ytkiijfgoaeiphaa

/- word, add, from, to, leaf. -/
set_option linter.unusedVariables false
namespace Go.Proofs.Ytkiijfgoaeiphaa
open Go.RowKit
attribute [local go_sem ↓] Go.wp_at_zero Go.wp_at_succ

theorem pword_any (x : Cx) (t : Tok) : Meets x 62 #[pp x.g, eT t] (ask fun _ => wordOf x.s t) eS := by
  intro L w st hp _
  obtain ⟨nv, c0, c1, c2, c3, fz, _⟩ := hp.open
  have hs := hp.ssz
  have hg := hp.glt
  have fin : Sec (∀ w', Below w.heap.size w w' → PostM x L eS w (ask (fun _ => wordOf x.s t) st) (.returned (.string (wordOf x.s t))) w') := ⟨fun w' hb => PostM.asked hp _ _ rfl hb⟩
  generalize hPost : PostM x L eS w (ask (fun _ => wordOf x.s t) st) = Post at fin ⊢
  clear c1 c2 c3 fz hPost
  dsimp only [eT]
  go_enter Try.func62, Try.ntmps62
  go_wp2
  refine wp_tail 5 (by kernel_rfl) (by kernel_rfl) fun W hc hf hz hW => ?_
  simp only [List.take_succ_cons, List.take_zero, List.drop_succ_cons, List.drop_zero]
  repeat still_step
  refine wpStill_nil ?_
  go_wp2_with fail
  refine (word_any x.s t.kind t.lo t.hi _ hs).mono ?_
  rintro e w1 ⟨rfl, hb⟩
  go_wp2_with fail
  refine fin.out _ ?_
  rw [hW.out] at hb
  exact ((Below.refl _ _).alloc (Nat.le_refl _) _).drew.trans (hb.mono (by simp))

theorem nd_cells {w : World} {L : Nat → Prop} {ns : List Nd} {cs : List Value} (h : NdsIn w L ns cs) {k : Nat} {n : Nd} (hk : ns[k]? = some n) :
    cs[k * 6]? = some (.int .i64 n.kind) ∧ cs[k * 6 + 1]? = some (.int .i64 n.lo) ∧ cs[k * 6 + 2]? = some (.int .i64 n.hi) ∧ cs[k * 6 + 3]? = some (.int .i64 n.num) ∧ cs[k * 6 + 4]? = some (.string n.name) ∧ ∃ kv, cs[k * 6 + 5]? = some kv ∧ KidsIn w L kv n.kids := by
  obtain ⟨kv, he, hkv⟩ := h.2 k n hk
  have g : ∀ i, i < 6 → cs[k * 6 + i]? = ((cs.drop (k * 6)).take 6)[i]? := fun i hi => by rw [List.getElem?_take, if_pos hi, List.getElem?_drop]
  have g0 := g 0 (by omega)
  rw [he] at g
  refine ⟨by simpa [he] using g0, by simpa using g 1 (by omega), by simpa using g 2 (by omega), by simpa using g 3 (by omega), by simpa using g 4 (by omega), kv, by simpa using g 5 (by omega), hkv⟩

/-- A node's cells, as the parser finds them. -/
theorem PW.node {x : Cx} {L : Nat → Prop} {w : World} {st : PSt} (hp : PW x L w st) {k : Nat} {n : Nd} (hk : st.nodes[k]? = some n) : ∃ b cap, w.cell? ⟨x.g, 3, none⟩ = some (.slice (some ⟨b, 0, none⟩) st.nodes.length cap) ∧ st.nodes.length ≤ 9223372036854775807 ∧
    w.cell? ⟨b, k * 6 + 1, none⟩ = some (.int .i64 n.lo) ∧ w.cell? ⟨b, k * 6 + 2, none⟩ = some (.int .i64 n.hi) := by
  obtain ⟨nv, c0, c1, c2, c3, fz, cs, hown, hnd⟩ := hp.open
  have hlt : k < st.nodes.length := (List.getElem?_eq_some_iff.1 hk).1
  obtain ⟨_, n1, n2, _⟩ := nd_cells hnd hk
  rcases hown.2 with ⟨_, h0⟩ | ⟨b, cap, cur, rfl, hb, hh, hn, hm, hs, ht⟩
  · omega
  · refine ⟨b, cap, c3, by unfold maxLen at hm; omega, ?_, ?_⟩
    · have := hown.cells (g := b) rfl _ _ n1
      rwa [show (⟨b, 0, none⟩ : Addr).add (k * 6 + 1) = ⟨b, k * 6 + 1, none⟩ by simp [Addr.add]] at this
    · have := hown.cells (g := b) rfl _ _ n2
      rwa [show (⟨b, 0, none⟩ : Addr).add (k * 6 + 2) = ⟨b, k * 6 + 2, none⟩ by simp [Addr.add]] at this

/-- 'from' and 'to' only look. -/
theorem from_still {x : Cx} {L : Nat → Prop} {w : World} {st : PSt} (hp : PW x L w st) {k : Nat} {n : Nd} (hk : st.nodes[k]? = some n) : Calls Try.prog 68 #[pp x.g, .int .i64 k] w fun e w' => e = .returned (.int .i64 n.lo) ∧ w' = w := by
  have hlt : k < st.nodes.length := (List.getElem?_eq_some_iff.1 hk).1
  obtain ⟨b, cap, c3, hm, n1, n2⟩ := hp.node hk
  have hd : (k : Int) < (st.nodes.length : Int) := by omega
  clear hk n2
  go_enter Try.func68, Try.ntmps68
  go_wp2
  go_ret
  exact ⟨rfl, rfl⟩
theorem to_still {x : Cx} {L : Nat → Prop} {w : World} {st : PSt} (hp : PW x L w st) {k : Nat} {n : Nd} (hk : st.nodes[k]? = some n) : Calls Try.prog 57 #[pp x.g, .int .i64 k] w fun e w' => e = .returned (.int .i64 n.hi) ∧ w' = w := by
  have hlt : k < st.nodes.length := (List.getElem?_eq_some_iff.1 hk).1
  obtain ⟨b, cap, c3, hm, n1, n2⟩ := hp.node hk
  have hd : (k : Int) < (st.nodes.length : Int) := by omega
  clear hk n1
  go_enter Try.func57, Try.ntmps57
  go_wp2
  go_ret
  exact ⟨rfl, rfl⟩
theorem fromOf_some {k : Nat} {st : PSt} (h : fromOf k st ≠ .stuck) : ∃ n, st.nodes[k]? = some n ∧ fromOf k st = .ok n.lo st := by
  cases hk : st.nodes[k]? with
  | none => exact absurd (by simp only [fromOf, hk]) h
  | some n => exact ⟨n, rfl, by simp only [fromOf, hk]⟩
theorem toOf_some {k : Nat} {st : PSt} (h : toOf k st ≠ .stuck) : ∃ n, st.nodes[k]? = some n ∧ toOf k st = .ok n.hi st := by
  cases hk : st.nodes[k]? with
  | none => exact absurd (by simp only [toOf, hk]) h
  | some n => exact ⟨n, rfl, by simp only [toOf, hk]⟩

/-- A node's value. -/
abbrev ndV (n : Nd) (kv : Value) : Value := .agg #[.int .i64 n.kind, .int .i64 n.lo, .int .i64 n.hi, .int .i64 n.num, .string n.name, kv]
def ndC (n : Nd) (kv : Value) : List Value := [.int .i64 n.kind, .int .i64 n.lo, .int .i64 n.hi, .int .i64 n.num, .string n.name, kv]

theorem NdsIn.snoc {w : World} {L : Nat → Prop} {ns : List Nd} {cs : List Value} (h : NdsIn w L ns cs) {n : Nd} {kv : Value} (hkv : KidsIn w L kv n.kids) : NdsIn w L (ns ++ [n]) (cs ++ ndC n kv) := by
  have hl := h.1
  refine ⟨by simp [hl, ndC]; omega, fun j m hj => ?_⟩
  rcases Nat.lt_or_ge j ns.length with hlt | hge
  · rw [List.getElem?_append_left hlt] at hj
    have := h.2 j m hj
    rw [List.drop_append_of_le_length (by omega), List.take_append_of_le_length (by rw [List.length_drop]; omega)]
    exact this
  · have hj2 : j < (ns ++ [n]).length := (List.getElem?_eq_some_iff.1 hj).1
    have hje : j = ns.length := by simp at hj2; omega
    subst hje
    have hm : n = m := by simpa using hj
    subst hm
    rw [← hl, List.drop_left]
    exact ⟨kv, rfl, hkv⟩

/-- What the append and the store of 'add' leave. -/
theorem PW.added {x : Cx} {L : Nat → Prop} {w W w1 : World} {st : PSt} (hp : PW x L w st) {n : Nd} {kv nv : Value} {cs : List Value} {ng cap : Nat} (hkv : KidsIn w L kv n.kids)
    (hrow : w.heap[x.g]? = some (.cells #[.string x.s, x.tv, .int .i64 st.pos, nv] 71 (0, 0))) (hown : w.ownsRow (x.g + 1) 53 6 nv st.nodes.length cs) (hnL : ∀ k, nv.ownBlock = some k → ¬ L k) (hnd : NdsIn w L st.nodes cs)
    (hB : Below w.heap.size w W) (hg : W.grownBy w1 nv.ownBlock) (hown1 : w1.ownsRow (x.g + 1) 53 6 (.slice (some ⟨ng, 0, none⟩) (st.nodes.length + 1) cap) (st.nodes.length + 1) (cs ++ ndC n kv))
    (hat : nv.ownBlock = some ng ∨ w.heap.size ≤ ng) (hlt : ng < w1.heap.size) :
    PW x L (w1.setCell ⟨x.g, 3, none⟩ (.slice (some ⟨ng, 0, none⟩) (st.nodes.length + 1) cap)) { st with nodes := st.nodes ++ [n] } ∧
      Keeps x.g L w (w1.setCell ⟨x.g, 3, none⟩ (.slice (some ⟨ng, 0, none⟩) (st.nodes.length + 1) cap)) := by
  have hgl := hp.glt
  have hs1 := hB.size
  have hs2 := hg.size
  have hnb : ∀ k, nv.ownBlock = some k → x.g + 1 ≤ k ∧ k < w.heap.size := hown.lt
  -- what is not the row, nor the parser, is as it was
  have hold : ∀ i, i < w.heap.size → some i ≠ nv.ownBlock → w1.heap[i]? = w.heap[i]? := fun i hi hne => (hg.block i (by omega) hne).trans (hB.block i hi)
  have hgne : some x.g ≠ nv.ownBlock := fun e => by have := hnb x.g e.symm; omega
  have hfar : ∀ i v, i ≠ x.g → (w1.setCell ⟨x.g, 3, none⟩ v).heap[i]? = w1.heap[i]? := fun i v hi => Below.heap_setCell _ _ _ _ hi
  have hint : ∀ b cur fr, ¬ L b → w.heap[b]? = some (.cells cur 3 fr) → ¬ L b ∧ (w1.setCell ⟨x.g, 3, none⟩ (.slice (some ⟨ng, 0, none⟩) (st.nodes.length + 1) cap)).heap[b]? = w.heap[b]? := by
    intro b cur fr hb hh
    refine ⟨hb, ?_⟩
    have hbg : b ≠ x.g := by rintro rfl; rw [hrow] at hh; simp at hh
    have hbr : some b ≠ nv.ownBlock := by
      intro e
      rcases hown.2 with ⟨rfl, _⟩ | ⟨g', cap', cur', rfl, _, hh', _⟩
      · simp [Value.ownBlock] at e
      · simp [Value.ownBlock] at e
        subst e
        rw [hh'] at hh; simp at hh
    rw [hfar b _ hbg]
    exact hold b (heap_lt hh) hbr
  constructor
  · refine ⟨fun i hi => ?_, by simp; omega, hp.gL, hp.toks.keep fun a ha => World.cell?_of_block ?_, hp.pos, hp.small, hp.ssz, .slice (some ⟨ng, 0, none⟩) (st.nodes.length + 1) cap, cs ++ ndC n kv, ?_, ?_, fun k hk hc => ?_, (hnd.keep hint).snoc (hkv.keep hint)⟩
    · have := hp.bound i hi; simp; omega
    · rw [hfar _ _ (by omega)]
      exact hold _ (by omega) (fun e => by have := hnb _ e.symm; omega)
    · simp [World.setCell, Array.getElem?_modify, hold x.g hgl hgne, hrow]
    · simp only [List.length_append, List.length_cons, List.length_nil, Nat.zero_add]
      refine ownsRow_of_heap hown1 fun k hk => hfar k _ ?_
      have := (hown1.lt k hk).1; omega
    · have hk' : ng = k := by simpa [Value.ownBlock] using hk
      subst hk'
      rcases hat with hat | hat
      · exact hnL _ hat hc
      · have := hp.bound _ hc; omega
  · refine ⟨hg.os.trans hB.os, hg.tape.trans hB.tape, hg.output.trans hB.output, by simp; omega, fun i hi => ?_, fun i hi => ?_⟩
    · rw [hfar i _ (by omega)]
      exact hold i (by omega) (fun e => by have := hnb _ e.symm; omega)
    · rw [hfar i _ (fun e => hp.gL (e ▸ hi))]
      exact hold i (hp.bound i hi) (fun e => hnL i e.symm hi)

theorem infoNd : (Try.prog.info? 53).map (fun i => (i.zero, i.size, i.bytes)) = some (some (.agg #[.int .i64 0, .int .i64 0, .int .i64 0, .int .i64 0, .string ⟨#[]⟩, .slice none 0 0]), 6, 72) := by kernel_rfl

set_option maxRecDepth 100000 in
theorem add_any (x : Cx) (n : Nd) (L : Nat → Prop) (w : World) (st : PSt) (kv : Value) (hp : PW x L w st) (hkv : KidsIn w L kv n.kids) (hns : add n st ≠ .stuck) :
    Calls Try.prog 56 #[pp x.g, ndV n kv] w (PostM x L eN w (add n st)) := by
  have hlt : st.nodes.length < most := by
    rcases Nat.lt_or_ge st.nodes.length most with h | h
    · exact h
    · exact absurd (by simp only [add]; rw [if_neg (by omega)]) hns
  have hs : Sec (add n st = .ok st.nodes.length { st with nodes := st.nodes ++ [n] }) := ⟨by simp only [add]; rw [if_pos hlt]⟩
  unfold most at hlt
  obtain ⟨nv, cs, hrow, hown, hnL, hnd⟩ := hp.row
  have c3 : w.cell? ⟨x.g, 3, none⟩ = some nv := by rw [cell_of_row w x.g 3 _ _ _ hrow]; rfl
  have f3 : w.frozen? ⟨x.g, 3, none⟩ = false := by simp [World.frozen?, hrow]
  have hg := hp.glt
  have hrow' := Sec.mk hrow
  have hadd := Sec.mk (fun (W w1 : World) (ng cap : Nat) => PW.added (W := W) (w1 := w1) (ng := ng) (cap := cap) hp hkv hrow hown hnL hnd)
  obtain ⟨a, c, rfl, _⟩ := hkv
  generalize hPost : PostM x L eN w (add n st) = Post
  have e0 := Sec.mk hPost; clear hPost
  have hnb : some x.g ≠ nv.ownBlock := fun e => by have := (hown.lt x.g e.symm).1; omega
  have hlen := hown.1
  obtain ⟨i0, hi0, hz0, hz1, hz2⟩ := info_parts infoNd
  have hbox : some w.heap.size ≠ nv.ownBlock := fun e => by have := (hown.lt _ e.symm).2; omega
  have hnb2 : ∀ A B, ((w.alloc A).alloc B).heap[w.heap.size + 1]? = some B := fun A B => by simpa using heap_alloc_new (w.alloc A) B
  clear hns hrow
  go_enter Try.func56, Try.ntmps56
  go_wp2
  go_region_law (first | (refine step_append_lies _ (by rfl) _ _ _ (by rfl) (x.g + 1) 53 i0 _ 6 72 Try.underlying23 hi0 hz0 hz1 hz2 rfl (by omega) nv st.nodes.length cs (by rfl) (((hown.alloc _).alloc _).drew) ⟨w.heap.size + 1, 0, none⟩ 1 1 [.int .i64 n.kind, .int .i64 n.lo, .int .i64 n.hi, .int .i64 n.num, .string n.name, .slice a n.kids.length c] (by rfl) (by rfl) (World.news_of_block (cs := #[.int .i64 n.kind, .int .i64 n.lo, .int .i64 n.hi, .int .i64 n.num, .string n.name, .slice a n.kids.length c]) (t := 53) (fr := (0, 0)) (hnb2 _ _)) (by simp [Value.oneCell']) (by omega) (by unfold maxLen; omega) (by omega) (by simp; omega) (w.heap.size + 2) (by simp) ?_; intro gg cap w1 hown1 hgrow hat hlt; have d3 : w1.cell? ⟨x.g, 3, none⟩ = some nv := (hgrow.cell_far _ (by simp; omega) hnb).trans (by simp [World.cell?_alloc_past, hg, c3, Nat.lt_succ_of_lt hg]); have e3 : w1.frozen? ⟨x.g, 3, none⟩ = false := (hgrow.frozen_far _ (by simp; omega) hnb).trans (by simp [World.frozen?_alloc_past, hg, f3, Nat.lt_succ_of_lt hg])))
  all_goals
    have d4 := World.cell?_setCell_same w1 ⟨x.g, 3, none⟩ (.slice (some ⟨gg, 0, none⟩) (st.nodes.length + 1) cap) d3
    obtain ⟨g1, g2⟩ := hadd.out _ w1 gg cap (((Below.refl _ _).alloc (Nat.le_refl _) _).alloc (by simp) _).drew hgrow hown1 (hat.imp id (fun h => by omega)) hlt
    have G1 := Sec.mk g1
    have G2 := Sec.mk g2
    clear g1 g2 hadd hown1 hgrow hat hnb2 hlen hown hnd hnL hnb hbox
    go_wp2
    rw [← e0.out]
    exact G1.out.toOk hs.out G2.out

/-- Nothing has parts. -/
theorem kids_nil (w : World) (L : Nat → Prop) : KidsIn w L (.slice none 0 0) [] := ⟨none, 0, rfl, by simp, by simp [maxLen], fun h => absurd rfl h⟩

/-- A call whose end is told, met. -/
theorem calls_useM {α : Type} {x : Cx} {f : FuncId} {args : Array Value} {m : M α} {enc : α → Value} {L : Nat → Prop} {w : World} {st : PSt} (h : Calls Try.prog f args w (PostM x L enc w (m st))) {R : Ending → World → Prop}
    (hok : ∀ a st' w', m st = .ok a st' → PW x L w' st' → Keeps x.g L w w' → R (.returned (enc a)) w')
    (hbad : ∀ fl w', m st = .bad fl → Keeps x.g L w w' → R (pfl fl) w') : Calls Try.prog f args w R := by
  refine h.mono fun e w' hq => ?_
  cases hm : m st with
  | ok a st' =>
    rw [hm] at hq
    obtain ⟨rfl, h1, h2⟩ := hq
    exact hok a st' w' hm h1 h2
  | bad fl =>
    rw [hm] at hq
    obtain ⟨rfl, h2⟩ := hq
    exact hbad fl w' hm h2
  | stuck => rw [hm] at hq; exact hq.elim
theorem PW.keepAlloc {x : Cx} {L : Nat → Prop} {w : World} {st : PSt} (hp : PW x L w st) (o : Obj) : Keeps x.g L w (w.alloc o) := (Keeps.refl _ _ _).alloc (by have := hp.glt; omega) hp.bound _

theorem leaf_any (x : Cx) (kind num : Nat) (name : ByteArray) (t : Tok) : Meets x 67 #[pp x.g, .int .i64 kind, .int .i64 num, .string name, eT t] (leaf kind num name t) eN := by
  intro L w st hp hns
  generalize hPost : PostM x L eN w (leaf kind num name t st) = Post
  have e0 := Sec.mk hPost; clear hPost
  have hN := Sec.mk hns; clear hns
  go_enter Try.func67, Try.ntmps67
  go_wp2_with fail
  refine calls_useM (add_any x ⟨kind, t.lo, t.hi, num, name, []⟩ L _ st (.slice none 0 0) (hp.alloc _) (kids_nil _ _) hN.out) (fun k st' w1 he hp1 hk1 => ?_) (fun fl w1 he hk1 => ?_)
  · have hE := Sec.mk he; clear he
    dsimp only [eN]
    go_wp2_with fail
    rw [← e0.out]
    exact hp1.toOk (m := leaf kind num name t) hE.out ((hp.keepAlloc _).trans hk1)
  · refine ⟨rfl, ?_⟩
    rw [← e0.out]
    exact Keeps.toBad (m := leaf kind num name t) he ((hp.keepAlloc _).trans hk1)
end Go.Proofs.Ytkiijfgoaeiphaa

/- bind. -/
set_option linter.unusedVariables false
namespace Go.Proofs.Ytkiijfgoaeiphaa
open Go.RowKit
attribute [local go_sem ↓] Go.wp_at_zero Go.wp_at_succ

theorem Meets.useOk {α : Type} {x : Cx} {f : FuncId} {args : Array Value} {m : M α} {enc : α → Value} (h : Meets x f args m enc) {L : Nat → Prop} {w : World} {st : PSt} {R : Ending → World → Prop} (hp : PW x L w st) {a : α} {st' : PSt}
    (he : m st = .ok a st') (hok : ∀ w', PW x L w' st' → Keeps x.g L w w' → R (.returned (enc a)) w') : Calls Try.prog f args w R := by
  refine h.use hp (by rw [he]; simp) (fun a' st'' w' he' h1 h2 => ?_) (fun fl w' he' _ => by rw [he] at he'; cases he')
  rw [he] at he'
  cases he'
  exact hok w' h1 h2
theorem leaf_ok {kind num : Nat} {name : ByteArray} {t : Tok} {st : PSt} (h : leaf kind num name t st ≠ .stuck) : leaf kind num name t st = .ok st.nodes.length { st with nodes := st.nodes ++ [⟨kind, t.lo, t.hi, num, name, []⟩] } := by
  simp only [leaf, add] at h ⊢
  split
  · rfl
  · rename_i hh; rw [if_neg hh] at h; exact absurd rfl h

set_option maxRecDepth 100000 in
theorem bind_any (x : Cx) : Meets x 52 #[pp x.g] (bind x.toTxt) eN := by
  intro L w st hp hns
  have hn1 : takeKind x.toTxt 1 st ≠ .stuck := fun h => hns (M.bind_stuck h)
  generalize hPost : PostM x L eN w (bind x.toTxt st) = Post
  have e0 := Sec.mk hPost; clear hPost
  have hN := Sec.mk hns; clear hns
  have hN1 := Sec.mk hn1; clear hn1
  go_enter Try.func52, Try.ntmps52
  go_wp2_with fail
  refine (takeKind_any x 1).use hp hN1.out (fun t st1 w1 he hp1 hk1 => ?_) (fun fl w1 he hk1 => ?_)
  · have hb := M.bind_ok (k := fun t => leaf 4 0 (wordOf x.s t) t) he
    have hl : Sec (leaf 4 0 (wordOf x.s t) t st1 = .ok st1.nodes.length { st1 with nodes := st1.nodes ++ [⟨4, t.lo, t.hi, 0, wordOf x.s t, []⟩] }) := ⟨leaf_ok (fun h => hN.out (hb.trans h))⟩
    have hE : Sec (bind x.toTxt st = .ok st1.nodes.length { st1 with nodes := st1.nodes ++ [⟨4, t.lo, t.hi, 0, wordOf x.s t, []⟩] }) := ⟨hb.trans hl.out⟩
    have hp1' := hp1.alloc_own (.cells #[.int .i64 t.kind, .int .i64 t.lo, .int .i64 t.hi] 31)
    have hka := hp1.keepAlloc (.cells #[.int .i64 t.kind, .int .i64 t.lo, .int .i64 t.hi] 31)
    clear hb he
    obtain ⟨tk, tl, th⟩ := t
    dsimp only [eT]
    go_wp2_with fail
    go_region_held3 (fun w' => w'.cell? ⟨w1.heap.size, 0, none⟩ = some (.int .i64 tk) ∧ w'.cell? ⟨w1.heap.size, 1, none⟩ = some (.int .i64 tl) ∧ w'.cell? ⟨w1.heap.size, 2, none⟩ = some (.int .i64 th))
      (first | exact ⟨(hk3.cell (.inr (.inr rfl))).trans ((hk2.cell (.inr (.inr rfl))).trans (by simp)), (hk3.cell (.inr (.inr rfl))).trans ((hk2.cell (.inr (.inr rfl))).trans (by simp)), (hk3.cell (.inr (.inr rfl))).trans ((hk2.cell (.inr (.inr rfl))).trans (by simp))⟩ | exact ⟨(hk2.cell (.inr (.inr rfl))).trans (by simp), (hk2.cell (.inr (.inr rfl))).trans (by simp), (hk2.cell (.inr (.inr rfl))).trans (by simp)⟩ | go_keep)
      (first | ((go_at_call 62; refine (pword_any x ⟨tk, tl, th⟩).asks hp1'.drew rfl fun w2 hp2 hk2 => ?_; dsimp only [eS])) | ((go_at_call 67; refine (leaf_any x 4 0 (wordOf x.s ⟨tk, tl, th⟩) ⟨tk, tl, th⟩).useOk hp2 hl.out fun w3 hp3 hk3 => ?_; dsimp only [eN])))
    go_wp2_with fail
    rw [← e0.out]
    exact (hp3.weaken fun i hi => .inl hi).toOk hE.out (hk1.trans (hka.drew.trans ((hk2.trans hk3).weaken fun i hi => .inl hi)))
  · refine ⟨rfl, ?_⟩
    rw [← e0.out]
    exact Keeps.toBad (M.bind_bad he) hk1
end Go.Proofs.Ytkiijfgoaeiphaa

/- A list of parts that a function of the parser gathers: a row of its own, beside the parser. -/
set_option linter.unusedVariables false
namespace Go.Proofs.Ytkiijfgoaeiphaa
open Go.RowKit

def ints (l : List Int) : List Value := l.map fun i => .int .i64 i
/-- The call began in w with L; now the world is W, the row v holds l, it is of Lk. -/
structure KL (x : Cx) (L : Nat → Prop) (w : World) (Lk : Nat → Prop) (W : World) (v : Value) (l : List Int) (st : PSt) : Prop where
  own : W.ownsRow w.heap.size 3 1 v l.length (ints l)
  prot : ∀ k, v.ownBlock = some k → Lk k
  sub : ∀ i, L i → Lk i
  pw : PW x Lk W st
  keeps : Keeps x.g L w W
  glt : x.g < w.heap.size
  lb : ∀ i, L i → i < w.heap.size

section
variable {x : Cx} {L Lk : Nat → Prop} {w W W' : World} {v : Value} {l : List Int} {st st' : PSt}
theorem KL.nil (hp : PW x L w st) (hk : Keeps x.g L w W) (hp' : PW x L W st') : KL x L w L W (.slice none 0 0) [] st' :=
  ⟨World.ownsRow_nil _ _ _ _, fun k h => by simp [Value.ownBlock] at h, fun _ h => h, hp', hk, hp.glt, hp.bound⟩
theorem KL.step (h : KL x L w Lk W v l st) (hk : Keeps x.g Lk W W') (hp : PW x Lk W' st') : KL x L w Lk W' v l st' :=
  ⟨ownsRow_of_heap h.own fun k hk' => hk.mine k (h.prot k hk'), h.prot, h.sub, hp, h.keeps.trans (hk.weaken h.sub), h.glt, h.lb⟩
/-- One part that lies in a new block becomes the row. -/
theorem KL.one (hp : PW x L w st) (hk : Keeps x.g L w W) (hp' : PW x L W st') (y : Int) : KL x L w (fun i => L i ∨ i = W.heap.size) (W.alloc (.cells #[.int .i64 y] 3)) (.slice (some ⟨W.heap.size, 0, none⟩) 1 1) [y] st' := by
  have h := World.ownsRow_lit (base := w.heap.size) (e := 3) (size := 1) W #[.int .i64 y] 1 hk.size (by simp [maxLen]) rfl
  exact ⟨h, fun k hk => .inr (by simpa [Value.ownBlock] using hk.symm), fun i hi => .inl hi, hp'.alloc_own _, hk.trans (hp'.keepAlloc _), hp.glt, hp.bound⟩
theorem KL.shape (h : KL x L w Lk W v l st) : ∃ a c, v = .slice a l.length c := by
  rcases h.own.2 with ⟨rfl, h0⟩ | ⟨g, cap, cur, rfl, _⟩
  · exact ⟨none, 0, by rw [h0]⟩
  · exact ⟨_, cap, rfl⟩
/-- The list is read. -/
theorem KL.reads (h : KL x L w Lk W v l st) : IntsAt W Lk v l := by
  rcases h.own.2 with ⟨rfl, h0⟩ | ⟨g, cap, cur, rfl, hb, hh, h1, h2, h3, h4⟩
  · have : l = [] := List.eq_nil_of_length_eq_zero h0
    subst this
    exact ⟨none, 0, rfl, by simp, by simp [maxLen], fun hn => absurd rfl hn⟩
  · refine ⟨_, cap, rfl, h1, h2, fun _ => ⟨g, 0, rfl, h.prot g rfl, fun j y hj => ?_⟩⟩
    have := h.own.cells (g := g) rfl j (.int .i64 y) (by simp [ints, hj])
    rwa [show (⟨g, 0, none⟩ : Addr).add j = ⟨g, 0 + j, none⟩ by simp only [Addr.add, Nat.zero_add]; split <;> simp_all] at this
/-- The row is given away: it becomes a node's parts. -/
theorem KL.kids (h : KL x L w Lk W v l st) : KidsIn W L v l := by
  rcases h.own.2 with ⟨rfl, h0⟩ | ⟨g, cap, cur, rfl, hb, hh, h1, h2, h3, h4⟩
  · have : l = [] := List.eq_nil_of_length_eq_zero h0
    subst this
    exact kids_nil _ _
  · refine ⟨_, cap, rfl, h1, h2, fun _ => ⟨g, 0, cur, (0, 0), rfl, fun hc => ?_, hh, fun j y hj => ?_⟩⟩
    · have := h.lb g hc; omega
    · have hj' : j < l.length := (List.getElem?_eq_some_iff.1 hj).1
      have h5 : (ints l)[j]? = some (.int .i64 y) := by simp [ints, hj]
      rw [← h4, List.getElem?_take, if_pos (by omega)] at h5
      simpa using h5
/-- Two parts in a new block. -/
theorem kids_lit (w : World) (L : Nat → Prop) (hL : ∀ i, L i → i < w.heap.size) (l : List Int) (hl : l.length ≤ 1000) : KidsIn (w.alloc (.cells (ints l).toArray 3)) L (.slice (some ⟨w.heap.size, 0, none⟩) l.length l.length) l := by
  refine ⟨_, l.length, rfl, Nat.le_refl _, by unfold maxLen; omega, fun _ => ⟨w.heap.size, 0, (ints l).toArray, (0, 0), rfl, fun hc => ?_, heap_alloc_new w _, fun j y hj => ?_⟩⟩
  · have := hL _ hc; omega
  · simp [ints, hj]
end

theorem infoI : (Try.prog.info? 3).map (fun i => (i.zero, i.size, i.bytes)) = some (some (.int .i64 0), 1, 8) := by kernel_rfl

/-- append(list, y): the row grows by y. Behind 'at_builtin'; y lies in a new block. -/
theorem push_kid {ops : Array Oper} {rest : List Oper} {o : Oper} {a : Act} {Q : Exit → Act → World → Prop} {x : Cx} {L Lk : Nat → Prop} {w W : World} {v : Value} {l : List Int} {st : PSt}
    (hgd : o.guard = none) (s z : Operand) (ho : o.op = .call { callee := .builtin .append, args := #[s, z], argTypes := #[51, 51] }) (y : Int)
    (hs : a.eval s = v) (hz : a.eval z = .slice (some ⟨W.heap.size, 0, none⟩) 1 1) (hK : KL x L w Lk W v l st) (hl : l.length ≤ 9 * most)
    (h : ∀ v' w' Lk', KL x L w Lk' w' v' (l ++ [y]) st → wpList Try.prog ops Q rest (a.put o.dst v') w') : wpList Try.prog ops Q (o :: rest) a (W.alloc (.cells #[.int .i64 y] 3)) := by
  obtain ⟨i0, hi0, hz0, hz1, hz2⟩ := info_parts infoI
  unfold most at hl
  have hg := hK.pw.glt
  refine wpList_append_lies (W.alloc (.cells #[.int .i64 y] 3)) hgd s z 51 ho w.heap.size 3 i0 (.int .i64 0) 1 8 Try.underlying51 hi0 hz0 hz1 hz2 rfl (by omega) v l.length (ints l) hs (hK.own.alloc _) ⟨W.heap.size, 0, none⟩ 1 1 [.int .i64 y] hz rfl
    (World.news_of_block (cs := #[.int .i64 y]) (t := 3) (fr := (0, 0)) (heap_alloc_new W _)) (by simp [Value.oneCell']) (by omega) (by unfold maxLen; omega) (by omega) (by have := hK.keeps.size; simp; omega) (W.heap.size + 1) (by simp) ?_
  intro g cap w1 hown hgr hat hlt
  have hrow : ∀ k, v.ownBlock = some k → w.heap.size ≤ k := fun k hk => (hK.own.lt k hk).1
  have hp1 : PW x Lk (W.alloc (.cells #[.int .i64 y] 3)) st := hK.pw.alloc _
  refine h _ w1 _ ⟨?_, fun k hk => ?_, fun i hi => .inl (hK.sub i hi), hp1.grown hgr (fun k hk => ⟨hK.prot k hk, by have := hrow k hk; have := hK.glt; omega⟩), ?_, hK.glt, hK.lb⟩
  · simpa [ints] using hown
  · have hk' : g = k := by simpa [Value.ownBlock] using hk
    subst hk'
    rcases hat with hat | hat
    · exact .inl (hK.prot _ hat)
    · exact .inr ⟨by simp; omega, hlt⟩
  · refine (hK.keeps.trans ((hK.pw.keepAlloc _).weaken hK.sub)).grown hgr (by simp; omega) (fun i hi => by have := hK.lb i hi; have := hK.keeps.size; simp; omega) (fun k hk => ?_)
    have := hrow k hk
    have := hK.glt
    exact ⟨by omega, fun hc => by have := hK.lb k hc; omega⟩
end Go.Proofs.Ytkiijfgoaeiphaa

/- binds, wrap. -/
set_option linter.unusedVariables false
namespace Go.Proofs.Ytkiijfgoaeiphaa
open Go.RowKit
attribute [local go_sem ↓] Go.wp_at_zero Go.wp_at_succ

/-- How a call ends that answers a list in a row of its own. -/
def PostL (x : Cx) (L : Nat → Prop) (w : World) (r : Res (List Int)) (e : Ending) (w' : World) : Prop :=
  match r with
  | .ok l st' => ∃ v Lk, e = .returned v ∧ KL x L w Lk w' v l st'
  | .bad f => e = pfl f ∧ Keeps x.g L w w'
  | .stuck => False
theorem KL.toOk {x : Cx} {L Lk : Nat → Prop} {w w' : World} {v : Value} {l : List Int} {m : M (List Int)} {st st' : PSt} (h : m st = .ok l st') (hK : KL x L w Lk w' v l st') : PostL x L w (m st) (.returned v) w' := by
  rw [h]; exact ⟨v, Lk, rfl, hK⟩
theorem Keeps.toBadL {x : Cx} {L : Nat → Prop} {w w' : World} {m : M (List Int)} {st : PSt} {fl : Flt} (h : m st = .bad fl) (hk : Keeps x.g L w w') : PostL x L w (m st) (pfl fl) w' := by
  rw [h]; exact ⟨rfl, hk⟩
theorem calls_useL {x : Cx} {f : FuncId} {args : Array Value} {m : M (List Int)} {L : Nat → Prop} {w : World} {st : PSt} (h : Calls Try.prog f args w (PostL x L w (m st))) {R : Ending → World → Prop}
    (hok : ∀ l st' w' v Lk, m st = .ok l st' → KL x L w Lk w' v l st' → R (.returned v) w')
    (hbad : ∀ fl w', m st = .bad fl → Keeps x.g L w w' → R (pfl fl) w') : Calls Try.prog f args w R := by
  refine h.mono fun e w' hq => ?_
  cases hm : m st with
  | ok a st' =>
    rw [hm] at hq
    obtain ⟨v, Lk, rfl, h1⟩ := hq
    exact hok a st' w' v Lk hm h1
  | bad fl =>
    rw [hm] at hq
    obtain ⟨rfl, h2⟩ := hq
    exact hbad fl w' hm h2
  | stuck => rw [hm] at hq; exact hq.elim

theorem calls_useOk {α : Type} {x : Cx} {f : FuncId} {args : Array Value} {m : M α} {enc : α → Value} {L : Nat → Prop} {w : World} {st st' : PSt} {a : α} (h : Calls Try.prog f args w (PostM x L enc w (m st))) {R : Ending → World → Prop} (he : m st = .ok a st')
    (hok : ∀ w', PW x L w' st' → Keeps x.g L w w' → R (.returned (enc a)) w') : Calls Try.prog f args w R := by
  refine calls_useM h (fun a' st'' w' he' h1 h2 => ?_) (fun fl w' he' _ => by rw [he] at he'; cases he')
  rw [he] at he'
  cases he'
  exact hok w' h1 h2
theorem add_ok {n : Nd} {st : PSt} (h : add n st ≠ .stuck) : add n st = .ok st.nodes.length { st with nodes := st.nodes ++ [n] } := by
  simp only [add] at h ⊢
  split
  · rfl
  · rename_i hh; rw [if_neg hh] at h; exact absurd rfl h

theorem binds_any (x : Cx) (L : Nat → Prop) (w : World) (st : PSt) (hp : PW x L w st) (hns : binds x.toTxt st ≠ .stuck) : Calls Try.prog 53 #[pp x.g] w (PostL x L w (binds x.toTxt st)) := by
  have hsm := hp.small
  generalize hPost : PostL x L w (binds x.toTxt st) = Post
  have e0 := Sec.mk hPost; clear hPost
  have hN := Sec.mk hns; clear hns
  go_enter Try.func53, Try.ntmps53
  go_wp2_with fail
  go_loopg [3] (x.toks.length + 1) (fun n v wr => ∃ l st1 Lk, KL x L w Lk wr v l st1 ∧ Sec (l.length + n = x.toks.length + 1) ∧ Sec (binds x.toTxt st = bindsL x.toTxt n l st1))
  case atStart => exact ⟨[], st, L, KL.nil hp (Keeps.refl _ _ _) hp, ⟨by simp⟩, ⟨rfl⟩⟩
  case round =>
    obtain ⟨l, st1, Lk, hK, hn, hE⟩ := hrel
    cases gk with
    | zero => exact absurd (hE.out.trans rfl) hN.out
    | succ n =>
      cases hb : isK x.toTxt 1 st1 with
      | true =>
        have hE1 : Sec (binds x.toTxt st = M.bind (bind x.toTxt) (fun b => bindsL x.toTxt n (l ++ [(b : Int)])) st1) := ⟨by rw [hE.out]; simp only [bindsL, hb, if_true]⟩
        have hN1 : Sec (bind x.toTxt st1 ≠ .stuck) := ⟨fun h => hN.out (hE1.out.trans (M.bind_stuck h))⟩
        have hB := Sec.mk hb; clear hb hE
        obtain ⟨sa, sc, hv⟩ := hK.shape
        subst hv
        go_wp2_with fail
        refine (kind_any x 1).asks hK.pw hB.out fun w1 hp1 hk1 => ?_
        dsimp only [eB]
        go_wp2_with fail
        refine (bind_any x).use hp1 hN1.out (fun b st2 w2 he hp2 hk2 => ?_) (fun fl w2 he hk2 => ?_)
        · have hE2 : Sec (binds x.toTxt st = bindsL x.toTxt n (l ++ [(b : Int)]) st2) := ⟨hE1.out.trans (M.bind_ok he)⟩
          have hK2 := (hK.step hk1 hp1).step hk2 hp2
          clear he hE1 hN1 hK hk1 hk2 hp1 hp2
          dsimp only [eN]
          go_wp2_with (at_builtin; refine push_kid rfl _ _ rfl (b : Int) (by rfl) (by rfl) hK2 (by have := hn.out; omega) ?_; intro v' w3 Lk' hK3)
          go_roundg n
          case measure => omega
          case rel => exact ⟨_, _, Lk', hK3, ⟨by have := hn.out; simp; omega⟩, hE2⟩
        · refine ⟨rfl, ?_⟩
          rw [← e0.out]
          exact Keeps.toBadL (hE1.out.trans (M.bind_bad he)) (hK.keeps.trans ((hk1.trans hk2).weaken hK.sub))
      | false =>
        have hE1 : Sec (binds x.toTxt st = .ok l st1) := ⟨by rw [hE.out]; simp only [bindsL, hb, Bool.false_eq_true, if_false]⟩
        have hB := Sec.mk hb; clear hb hE
        obtain ⟨sa, sc, hv⟩ := hK.shape
        subst hv
        go_wp2_with fail
        refine (kind_any x 1).asks hK.pw hB.out fun w1 hp1 hk1 => ?_
        dsimp only [eB]
        go_wp2_with fail
        rw [← e0.out]
        exact (hK.step hk1 hp1).toOk hE1.out
end Go.Proofs.Ytkiijfgoaeiphaa

/- wrap, operate. -/
set_option linter.unusedVariables false
namespace Go.Proofs.Ytkiijfgoaeiphaa
open Go.RowKit
attribute [local go_sem ↓] Go.wp_at_zero Go.wp_at_succ

/-- What 'wrap' is told of where the first function begins. -/
def firstV : Option Nat → Int
  | none => -1
  | some p => p
theorem IntsAt.keep {w w' : World} {L : Nat → Prop} {v : Value} {xs : List Int} (h : IntsAt w L v xs) (hk : ∀ b, L b → w'.heap[b]? = w.heap[b]?) : IntsAt w' L v xs := by
  obtain ⟨a, c, h1, h2, h3, h4⟩ := h
  refine ⟨a, c, h1, h2, h3, fun hne => ?_⟩
  obtain ⟨b, o, e, hb, hc⟩ := h4 hne
  exact ⟨b, o, e, hb, fun j x hj => (World.cell?_of_block (hk b hb)).trans (hc j x hj)⟩

set_option maxRecDepth 100000 in
theorem operate_any (x : Cx) (name : ByteArray) (l r : Nat) : Meets x 78 #[pp x.g, .string name, .int .i64 l, .int .i64 r] (operate name l r) eN := by
  intro L w st hp hns
  obtain ⟨nl, hl1, hl2⟩ := fromOf_some (k := l) (st := st) (fun h => hns (M.bind_stuck h))
  have e1 := M.bind_ok (k := fun f => M.bind (toOf r) fun t => add ⟨17, f, t, 0, name, [(l : Int), (r : Int)]⟩) hl2
  obtain ⟨nr, hr1, hr2⟩ := toOf_some (k := r) (st := st) (fun h => hns (e1.trans (M.bind_stuck h)))
  have hs : Sec (operate name l r st = add ⟨17, nl.lo, nr.hi, 0, name, [(l : Int), (r : Int)]⟩ st) := ⟨e1.trans (M.bind_ok hr2)⟩
  have hN : Sec (add ⟨17, nl.lo, nr.hi, 0, name, [(l : Int), (r : Int)]⟩ st ≠ .stuck) := ⟨fun h => hns (hs.out.trans h)⟩
  have hL1 := Sec.mk hl1
  have hR1 := Sec.mk hr1
  generalize hPost : PostM x L eN w (operate name l r st) = Post
  have e0 := Sec.mk hPost; clear hPost
  clear hns e1 hl2 hr2 hl1 hr1
  go_enter Try.func78, Try.ntmps78
  go_wp2_with fail
  refine (from_still hp hL1.out).mono ?_
  rintro e w1 ⟨rfl, h⟩
  obtain rfl := h.symm
  go_wp2_with fail
  refine (to_still hp hR1.out).mono ?_
  rintro e w1 ⟨rfl, h⟩
  obtain rfl := h.symm
  go_wp2_with fail
  refine calls_useM (add_any x ⟨17, nl.lo, nr.hi, 0, name, [(l : Int), (r : Int)]⟩ L _ st _ (hp.alloc _) (kids_lit w L hp.bound [(l : Int), (r : Int)] (by simp)) hN.out) (fun k st' w1 he hp1 hk1 => ?_) (fun fl w1 he hk1 => ?_)
  · have hE := Sec.mk he; clear he
    dsimp only [eN]
    go_wp2_with fail
    rw [← e0.out]
    exact hp1.toOk (hs.out.trans hE.out) ((hp.keepAlloc _).trans hk1)
  · refine ⟨rfl, ?_⟩
    rw [← e0.out]
    exact Keeps.toBad (hs.out.trans he) ((hp.keepAlloc _).trans hk1)

theorem take_succ_rev (l : List Int) (k : Nat) (h : k < l.length) : (l.take (k + 1)).reverse = l[k] :: (l.take k).reverse := by
  rw [List.take_succ_eq_append_getElem h]; simp

set_option maxRecDepth 100000 in
set_option maxHeartbeats 1000000 in
theorem wrap_any (x : Cx) (v : Value) (bs : List Int) (first : Option Nat) (body : Nat) (L : Nat → Prop) (w : World) (st : PSt) (hp : PW x L w st) (hbs : IntsAt w L v bs) (hnn : ∀ (j : Nat) (y : Int), bs[j]? = some y → 0 ≤ y) (hns : wrap bs first body st ≠ .stuck) :
    Calls Try.prog 54 #[pp x.g, v, .int .i64 (firstV first), .int .i64 body] w (PostM x L eN w (wrap bs first body st)) := by
  generalize hPost : PostM x L eN w (wrap bs first body st) = Post
  have e0 := Sec.mk hPost; clear hPost
  have hN := Sec.mk hns; clear hns
  obtain ⟨va, vc, rfl, hvc, hvm, hva⟩ := hbs
  unfold maxLen at hvm
  have hva' := Sec.mk hva; clear hva
  go_enter Try.func54, Try.ntmps54
  go_wp2_with fail
  go_loopg [3, 9, 10] bs.length (fun n bd i f wr => ∃ b st1, n ≤ bs.length ∧ bd = .int .i64 ((b : Nat) : Int) ∧ i = .int .i64 ((n : Int) - 1) ∧ PW x L wr st1 ∧ Keeps x.g L w wr ∧ Sec (wrap bs first body st = wrapL first (bs.take n).reverse b st1))
  case atStart => exact ⟨body, st, Nat.le_refl _, rfl, rfl, hp, Keeps.refl _ _ _, ⟨by rw [List.take_length]; rfl⟩⟩
  case round =>
    obtain ⟨b, st1, hn, rfl, rfl, hp1, hk1, hE⟩ := hrel
    cases gk with
    | zero =>
      have hE1 : Sec (wrap bs first body st = .ok b st1) := ⟨hE.out⟩
      clear hE
      go_wp2_with fail
      rw [← e0.out]
      exact hp1.toOk hE1.out hk1
    | succ n =>
      have hlt : n < bs.length := by omega
      have hy := List.getElem?_eq_getElem hlt
      generalize hyv : bs[n] = y at hy
      have hy0 : 0 ≤ y := hnn n y hy
      obtain ⟨q, rfl⟩ := Int.eq_ofNat_of_zero_le hy0
      have hE0 : wrap bs first body st = wrapL first ((q : Int) :: (bs.take n).reverse) b st1 := by rw [hE.out, take_succ_rev bs n hlt, hyv]
      clear hE hyv hy0
      obtain ⟨nf, hf1, hf2⟩ := fromOf_some (k := q) (st := st1) (fun h => hN.out (hE0.trans (M.bind_stuck (by simpa using h))))
      obtain ⟨nt, ht1, ht2⟩ := toOf_some (k := b) (st := st1) (fun h => hN.out (hE0.trans ((M.bind_ok (by simpa using hf2)).trans (M.bind_stuck h))))
      obtain ⟨fv, hfv⟩ : ∃ fv : Int, firstOf first (bs.take n).reverse nf.lo = fv := ⟨_, rfl⟩
      have hE1 : Sec (wrap bs first body st = M.bind (add ⟨12, fv, nt.hi, 0, ⟨#[]⟩, [(q : Int), (b : Int)]⟩) (fun k => wrapL first (bs.take n).reverse k) st1) := ⟨by rw [hE0, ← hfv]; exact (M.bind_ok (by simpa using hf2)).trans (M.bind_ok ht2)⟩
      have hN1 : Sec (add ⟨12, fv, nt.hi, 0, ⟨#[]⟩, [(q : Int), (b : Int)]⟩ st1 ≠ .stuck) := ⟨fun h => hN.out (hE1.out.trans (M.bind_stuck h))⟩
      have hF1 := Sec.mk hf1
      have hT1 := Sec.mk ht1
      obtain ⟨vb, vo, rfl, hvL, hvc'⟩ := hva'.out (by intro h; rw [h] at hlt; simp at hlt)
      have cy : wr.cell? ⟨vb, vo + n, none⟩ = some (.int .i64 q) := (hk1.cell (.inr hvL)).trans (hvc' n _ hy)
      have hyI : (n : Int) < (bs.length : Int) := by omega
      have hy0 : (0 : Int) ≤ (n : Int) := by omega
      rw [show ((n + 1 : Nat) : Int) - 1 = (n : Int) from by omega]
      have hcase : (n = 0 ∧ 0 ≤ firstV first ∧ fv = firstV first) ∨ (n = 0 ∧ firstV first < 0 ∧ fv = nf.lo) ∨ (n ≠ 0 ∧ fv = nf.lo) := by
        cases n with
        | zero =>
          cases first with
          | none => exact .inr (.inl ⟨rfl, by simp [firstV], by simpa [firstOf] using hfv.symm⟩)
          | some p => exact .inl ⟨rfl, by simp [firstV], by simpa [firstOf, firstV] using hfv.symm⟩
        | succ m =>
          refine .inr (.inr ⟨by omega, ?_⟩)
          rw [← hfv]
          unfold firstOf
          have hne : (bs.take (m + 1)).reverse ≠ [] := by simp; intro h; rw [h] at hlt; simp at hlt
          split
          · exact absurd (by assumption) hne
          · rfl
      clear hE0 hf1 hf2 ht1 ht2 hfv hva' hvc' hy
      have hcase' := Sec.mk hcase; clear hcase
      rcases hcase'.out with ⟨hz, hf, rfl⟩ | ⟨hz, hf, rfl⟩ | ⟨hz, rfl⟩
      · have hz' : ((n : Int) == 0) = true := beq_iff_eq.2 (by omega)
        have hb := Sec.mk hz
        clear hz hcase'
        go_wp2_with fail
        refine (from_still hp1 hF1.out).mono ?_
        rintro e w1 ⟨rfl, h⟩
        obtain rfl := h.symm
        go_wp2_with fail
        have hA := Sec.mk (add_ok hN1.out)
        have hvb : vb < wr.heap.size := World.block_lt_of_cell? wr _ cy
        go_region_held3 (fun w' => w'.cell? ⟨vb, vo + n, none⟩ = some (.int .i64 q)) (first | exact (hk2.cell (a := ⟨vb, vo + n, none⟩) (.inr hvL)).trans ((World.cell?_alloc_lt _ _ _ hvb).trans cy) | go_keep)
          (first | ((go_at_call 57; with_reducible (refine (to_still hp1.drew hT1.out).mono ?_); rintro e w1 ⟨rfl, h⟩; obtain rfl := h.symm)) | ((go_at_call 57; with_reducible (refine (to_still (hp1.alloc _).drew hT1.out).mono ?_); rintro e w1 ⟨rfl, h⟩; obtain rfl := h.symm)) | ((go_at_call 56; refine calls_useOk (add_any x ⟨12, firstV first, nt.hi, 0, ⟨#[]⟩, [(q : Int), (b : Int)]⟩ L _ st1 _ (hp1.alloc _).drew (kids_lit wr L hp1.bound [(q : Int), (b : Int)] (by simp)) hN1.out) hA.out fun w2 hp2 hk2 => ?_; dsimp only [eN])))
        all_goals
          have hE2 : Sec (wrap bs first body st = wrapL first (bs.take n).reverse st1.nodes.length _) := ⟨hE1.out.trans (M.bind_ok hA.out)⟩
          have hk3 := hk1.trans ((hp1.keepAlloc _).drew.trans hk2)
          clear hA hk2 hE1
          go_wp2_with fail
          go_roundg n
          case measure => omega
          case rel => exact ⟨_, _, by omega, rfl, rfl, hp2, hk3, hE2⟩
      · have hz' : ((n : Int) == 0) = true := beq_iff_eq.2 (by omega)
        have hb := Sec.mk hz
        clear hz hcase'
        go_wp2_with fail
        refine (from_still hp1 hF1.out).mono ?_
        rintro e w1 ⟨rfl, h⟩
        obtain rfl := h.symm
        go_wp2_with fail
        have hA := Sec.mk (add_ok hN1.out)
        have hvb : vb < wr.heap.size := World.block_lt_of_cell? wr _ cy
        go_region_held3 (fun w' => w'.cell? ⟨vb, vo + n, none⟩ = some (.int .i64 q)) (first | exact (hk2.cell (a := ⟨vb, vo + n, none⟩) (.inr hvL)).trans ((World.cell?_alloc_lt _ _ _ hvb).trans cy) | go_keep)
          (first | ((go_at_call 57; with_reducible (refine (to_still hp1.drew hT1.out).mono ?_); rintro e w1 ⟨rfl, h⟩; obtain rfl := h.symm)) | ((go_at_call 57; with_reducible (refine (to_still (hp1.alloc _).drew hT1.out).mono ?_); rintro e w1 ⟨rfl, h⟩; obtain rfl := h.symm)) | ((go_at_call 56; refine calls_useOk (add_any x ⟨12, nf.lo, nt.hi, 0, ⟨#[]⟩, [(q : Int), (b : Int)]⟩ L _ st1 _ (hp1.alloc _).drew (kids_lit wr L hp1.bound [(q : Int), (b : Int)] (by simp)) hN1.out) hA.out fun w2 hp2 hk2 => ?_; dsimp only [eN])))
        all_goals
          have hE2 : Sec (wrap bs first body st = wrapL first (bs.take n).reverse st1.nodes.length _) := ⟨hE1.out.trans (M.bind_ok hA.out)⟩
          have hk3 := hk1.trans ((hp1.keepAlloc _).drew.trans hk2)
          clear hA hk2 hE1
          go_wp2_with fail
          go_roundg n
          case measure => omega
          case rel => exact ⟨_, _, by omega, rfl, rfl, hp2, hk3, hE2⟩
      · have hz' : ((n : Int) == 0) = false := beq_eq_false_iff_ne.2 (by omega)
        have hb := Sec.mk hz
        clear hz hcase'
        go_wp2_with fail
        refine (from_still hp1 hF1.out).mono ?_
        rintro e w1 ⟨rfl, h⟩
        obtain rfl := h.symm
        go_wp2_with fail
        have hA := Sec.mk (add_ok hN1.out)
        have hvb : vb < wr.heap.size := World.block_lt_of_cell? wr _ cy
        go_region_held3 (fun w' => w'.cell? ⟨vb, vo + n, none⟩ = some (.int .i64 q)) (first | exact (hk2.cell (a := ⟨vb, vo + n, none⟩) (.inr hvL)).trans ((World.cell?_alloc_lt _ _ _ hvb).trans cy) | go_keep)
          (first | ((go_at_call 57; with_reducible (refine (to_still hp1.drew hT1.out).mono ?_); rintro e w1 ⟨rfl, h⟩; obtain rfl := h.symm)) | ((go_at_call 57; with_reducible (refine (to_still (hp1.alloc _).drew hT1.out).mono ?_); rintro e w1 ⟨rfl, h⟩; obtain rfl := h.symm)) | ((go_at_call 56; refine calls_useOk (add_any x ⟨12, nf.lo, nt.hi, 0, ⟨#[]⟩, [(q : Int), (b : Int)]⟩ L _ st1 _ (hp1.alloc _).drew (kids_lit wr L hp1.bound [(q : Int), (b : Int)] (by simp)) hN1.out) hA.out fun w2 hp2 hk2 => ?_; dsimp only [eN])))
        all_goals
          have hE2 : Sec (wrap bs first body st = wrapL first (bs.take n).reverse st1.nodes.length _) := ⟨hE1.out.trans (M.bind_ok hA.out)⟩
          have hk3 := hk1.trans ((hp1.keepAlloc _).drew.trans hk2)
          clear hA hk2 hE1
          go_wp2_with fail
          go_roundg n
          case measure => omega
          case rel => exact ⟨_, _, by omega, rfl, rfl, hp2, hk3, hE2⟩
end Go.Proofs.Ytkiijfgoaeiphaa

/- number. -/
set_option linter.unusedVariables false
namespace Go.Proofs.Ytkiijfgoaeiphaa
open Go.RowKit
attribute [local go_sem ↓] Go.wp_at_zero Go.wp_at_succ

theorem bytes_below (W : World) (e : TypeId) (s : ByteArray) : Below W.heap.size W (Lib.bytesWorld W e s) :=
  ⟨rfl, rfl, rfl, by rw [Lib.bytesWorld_size]; omega, fun i hi => Lib.bytesWorld_at_old W e s i hi⟩

theorem PostM.told {α : Type} {x : Cx} {L : Nat → Prop} {w w' : World} {st : PSt} {q : PSt → α} {enc : α → Value} {v : Value} (hv : v = enc (q st)) (hp : PW x L w' st) (hk : Keeps x.g L w w') : PostM x L enc w (ask q st) (.returned v) w' := by
  subst hv
  exact ⟨rfl, hp, hk⟩
theorem PW.cells12 {x : Cx} {L : Nat → Prop} {w : World} {st : PSt} (hp : PW x L w st) : w.cell? ⟨x.g, 1, none⟩ = some x.tv ∧ w.cell? ⟨x.g, 2, none⟩ = some (.int .i64 st.pos) := by
  obtain ⟨nv, c0, c1, c2, _⟩ := hp.open
  exact ⟨c1, c2⟩
theorem digit_wrap (b : Nat) (hb : b < 256) : IntKind.u8.wrap ((b : Int) - 48) = (((b + 256 - 48) % 256 : Nat) : Int) := by
  simp [IntKind.wrap, IntKind.signed, IntKind.bits]
  omega

set_option maxRecDepth 100000 in
theorem number_any (x : Cx) : Meets x 92 #[pp x.g] (ask (number x.toTxt)) eNB := by
  intro L w st hp _
  have hs := hp.ssz
  cases hb : isK x.toTxt 3 st with
  | false =>
    have hv : number x.toTxt st = (0, false) := by
      simp only [number]
      split
      · rename_i t ht
        simp only [isK, ht] at hb
        rw [if_neg (by simp [hb])]
      · rfl
    have fin : Sec (∀ w', PW x L w' st → Keeps x.g L w w' → PostM x L eNB w (ask (number x.toTxt) st) (.returned (.tuple #[.int .i64 0, .bool false])) w') := ⟨fun w' h1 h2 => PostM.told (by rw [hv]; rfl) h1 h2⟩
    have hB := Sec.mk hb; clear hb hv
    generalize hPost : PostM x L eNB w (ask (number x.toTxt) st) = Post at fin ⊢
    clear hPost
    go_enter Try.func92, Try.ntmps92
    go_wp2_with fail
    refine (kind_any x 3).asks hp hB.out fun w1 hp1 hk1 => ?_
    dsimp only [eB]
    go_wp2_with fail
    exact fin.out _ hp1 hk1
  | true =>
    have hlt : st.pos < x.toks.length := by
      rcases Nat.lt_or_ge st.pos x.toks.length with h | h
      · exact h
      · simp only [isK] at hb; rw [List.getElem?_eq_none h] at hb; cases hb
    have hB := Sec.mk hb; clear hb
    have hg := hp.glt
    go_enter Try.func92, Try.ntmps92
    go_wp2_with fail
    refine (kind_any x 3).asks hp hB.out fun w1 hp1 hk1 => ?_
    dsimp only [eB]
    obtain ⟨nv, c0, c1, c2, c3, fz, _⟩ := hp1.open
    obtain ⟨b, o, c, kk, lo, hi, e1, e2, e3, e4, t0, t1, t2⟩ := hp1.tok hlt
    have hd : (st.pos : Int) < (x.toks.length : Int) := by omega
    have h0 : (0 : Int) ≤ (st.pos : Int) := by omega
    have hv : Sec (number x.toTxt st = numberOf 0 (wordOf x.s ⟨kk, lo, hi⟩).data.toList) := ⟨by
      have := hB.out
      simp only [isK, e2] at this
      simp only [number, e2]
      rw [if_pos this]⟩
    have hgb : b < w1.heap.size := by have := hp1.glt; omega
    have E1 := Sec.mk e1
    rw [e1] at c1
    clear e1 e2 fz c3 c0
    go_wp2_with fail
    go_region_with ((go_at_call 62; refine (pword_any x ⟨kk, lo, hi⟩).asks hp1.drew rfl fun w2 hp2 hk2 => ?_; have kb := Lib.run_convert_string_bytes (P := Try.prog) w2 9 41 5 (wordOf x.s ⟨kk, lo, hi⟩) Try.underlying9 Try.underlying41 Try.underlying5; dsimp only [eS]))
    all_goals
      simp only [List.getElem_toArray, List.getElem_cons_succ, List.getElem_cons_zero, Act.put, List.setIfInBounds_toArray, List.set_cons_zero, List.set_cons_succ]
      have hkB := (hk1.drew.trans hk2).trans (hp2.keepsB (bytes_below w2 5 (wordOf x.s ⟨kk, lo, hi⟩)))
      have hpB := hp2.below (bytes_below w2 5 (wordOf x.s ⟨kk, lo, hi⟩))
      have hcl := Sec.mk (Lib.bytesWorld_cell w2 5 (wordOf x.s ⟨kk, lo, hi⟩))
      clear hk2 hk1 hp1 kb c1 c2 t0 t1 t2 hp2
      have hwl : (wordOf x.s ⟨kk, lo, hi⟩).size ≤ 9223372036854775807 := by
        unfold wordOf; unfold maxLen at hs
        split
        · rw [ByteArray.size_extract]; omega
        · exact Nat.zero_le _
      generalize wordOf x.s ⟨kk, lo, hi⟩ = wd at *
      generalize Lib.bytesWorld w2 5 wd = wB at *
      generalize grownCap w2 wd.size 0 5 = cap
      generalize w2.heap.size = gB at *
      have fin : Sec (∀ n b, number x.toTxt st = (n, b) → PostM x L eNB w (ask (number x.toTxt) st) (.returned (.tuple #[.int .i64 ((n : Nat) : Int), .bool b])) wB) := ⟨fun n b h => PostM.told (by rw [h]) hpB hkB⟩
      clear hpB hkB
      go_wp2_with fail
      go_loop [4, 6, 24] (fun v c i => ∃ k n : Nat, k ≤ wd.size ∧ n < 1073741824 ∧ i = .int .i64 k ∧ v = .int .i64 n ∧ Sec (number x.toTxt st = numberOf n (wd.data.toList.drop k))) (fun _ _ i => wd.size - (intOf i).toNat)
      case atStart => exact ⟨0, 0, Nat.zero_le _, by omega, rfl, rfl, ⟨by rw [hv.out]; rfl⟩⟩
      case round =>
        obtain ⟨k, n, hk, hn, rfl, rfl, hE⟩ := hrel
        by_cases hlt : k < wd.size
        · have hl : k < wd.data.toList.length := by simpa using hlt
          have hc := hcl.out k hlt
          have hdrop : wd.data.toList.drop k = wd.data.toList.getD k 0 :: wd.data.toList.drop (k + 1) := by
            rw [List.drop_eq_getElem_cons hl, List.getD_eq_getElem?_getD, List.getElem?_eq_getElem hl]; rfl
          rw [hdrop] at hE
          generalize wd.data.toList.getD k 0 = ch at hc hE
          have hch := ch.toNat_lt
          have hw := digit_wrap ch.toNat (by omega)
          have hdg : (ch.toNat + 256 - 48) % 256 < 256 := Nat.mod_lt _ (by omega)
          generalize hdv : (ch.toNat + 256 - 48) % 256 = dg at hw hdg
          have hE' : Sec (numberOf n (ch :: wd.data.toList.drop (k + 1)) = if 1073741824 ≤ n * 10 + dg then (0, false) else numberOf (n * 10 + dg) (wd.data.toList.drop (k + 1))) := ⟨by simp only [numberOf, hdv]⟩
          have hch' : ch.toNat < 256 := by omega
          clear hdv hdrop hch
          generalize ch.toNat = cn at *
          by_cases hge : 1073741824 ≤ n * 10 + dg
          · have hgi : (1073741824 : Int) ≤ (n : Int) * 10 + (dg : Int) := by omega
            have fin' := Sec.mk (fin.out 0 false (by rw [hE.out, hE'.out, if_pos hge]))
            clear fin hE hE'
            go_wp2_with fail
            go_ret2
            exact fin'.out
          · have hgi : ¬ (1073741824 : Int) ≤ (n : Int) * 10 + (dg : Int) := by omega
            have hE2 : Sec (number x.toTxt st = numberOf (n * 10 + dg) (wd.data.toList.drop (k + 1))) := ⟨by rw [hE.out, hE'.out, if_neg hge]⟩
            clear fin hE hE'
            go_wp2_with fail
            go_round
            case rel => exact ⟨k + 1, n * 10 + dg, hlt, Nat.lt_of_not_le hge, by rw [show ((k + 1 : Nat) : Int) = (k : Int) + 1 from by omega], by rw [show ((n * 10 + dg : Nat) : Int) = (n : Int) * 10 + (dg : Int) from by omega], hE2⟩
            case measure => simp only [intOf]; omega
        · have hke : k = wd.size := by omega
          have fin' := Sec.mk (fin.out n true (by rw [hE.out, List.drop_of_length_le (by rw [Array.length_toList]; exact Nat.le_of_eq hke.symm)]; rfl))
          have hki : ¬ (k : Int) < (wd.size : Int) := by omega
          clear fin hE hke
          go_wp2_with fail
          go_ret2
          exact fin'.out
end Go.Proofs.Ytkiijfgoaeiphaa

/- isOne, chain. -/
set_option linter.unusedVariables false
namespace Go.Proofs.Ytkiijfgoaeiphaa
open Go.RowKit
attribute [local go_sem ↓] Go.wp_at_zero Go.wp_at_succ

/-- A list of words that is read. -/
def StrsAt (w : World) (L : Nat → Prop) (v : Value) (ss : List ByteArray) : Prop :=
  ∃ b c, v = .slice (some ⟨b, 0, none⟩) ss.length c ∧ ss.length ≤ 1000 ∧ L b ∧ ∀ j s, ss[j]? = some s → w.cell? ⟨b, j, none⟩ = some (.string s)
theorem StrsAt.keep {w w' : World} {L L' : Nat → Prop} {v : Value} {ss : List ByteArray} (h : StrsAt w L v ss) (hl : ∀ i, L i → L' i) (hk : ∀ b, L b → w'.heap[b]? = w.heap[b]?) : StrsAt w' L' v ss := by
  obtain ⟨b, c, h1, h2, hb, hc⟩ := h
  exact ⟨b, c, h1, h2, hl b hb, fun j x hj => (World.cell?_of_block (hk b hb)).trans (hc j x hj)⟩

theorem isOne_any (x : Cx) (v : Value) (ss : List ByteArray) (L : Nat → Prop) (w : World) (st : PSt) (hp : PW x L w st) (hss : StrsAt w L v ss) :
    Calls Try.prog 88 #[pp x.g, v] w (PostM x L eB w (ask (isOne x.toTxt ss) st)) := by
  obtain ⟨sb, sc, rfl, hl, hL, hc⟩ := hss
  have hc' := Sec.mk hc; clear hc
  go_enter Try.func88, Try.ntmps88
  go_wp2_with fail
  go_loopg [6, 9] ss.length (fun n s i wr => ∃ k : Nat, Sec (k + n = ss.length) ∧ i = .int .i64 k ∧ PW x L wr st ∧ Keeps x.g L w wr ∧ Sec (isOne x.toTxt ss st = isOne x.toTxt (ss.drop k) st))
  case atStart => exact ⟨0, ⟨by omega⟩, rfl, hp, Keeps.refl _ _ _, ⟨rfl⟩⟩
  case round =>
    obtain ⟨k, hk, rfl, hp1, hk1, hE⟩ := hrel
    cases gk with
    | zero =>
      have hki : ¬ (k : Int) < (ss.length : Int) := by have := hk.out; omega
      have hE1 : Sec (isOne x.toTxt ss st = false) := ⟨by rw [hE.out, List.drop_of_length_le (by have := hk.out; omega)]; rfl⟩
      clear hE hk
      go_wp2_with fail
      go_ret
      exact PostM.told (by rw [hE1.out]; rfl) hp1 hk1
    | succ n =>
      have hlt : k < ss.length := by have := hk.out; omega
      have hs := List.getElem?_eq_getElem hlt
      have hcell : wr.cell? ⟨sb, k, none⟩ = some (.string ss[k]) := (hk1.cell (.inr hL)).trans (hc'.out k _ hs)
      have hE1 : Sec (isOne x.toTxt ss st = (isW x.toTxt ss[k] st || isOne x.toTxt (ss.drop (k + 1)) st)) := ⟨by rw [hE.out, List.drop_eq_getElem_cons hlt]; rfl⟩
      have hki : (k : Int) < (ss.length : Int) := by omega
      have hk0 : (0 : Int) ≤ (k : Int) := by omega
      generalize ss[k] = sw at hcell hE1
      clear hE hs
      cases hb : isW x.toTxt sw st with
      | true =>
        have hE2 : Sec (isOne x.toTxt ss st = true) := ⟨by rw [hE1.out, hb]; rfl⟩
        have hB := Sec.mk hb; clear hb hE1
        go_wp2_with fail
        refine (is_any' x sw).asks hp1 hB.out fun w1 hp2 hk2 => ?_
        dsimp only [eB]
        go_wp2_with fail
        go_ret
        exact PostM.told (by rw [hE2.out]; rfl) hp2 (hk1.trans hk2)
      | false =>
        have hE2 : Sec (isOne x.toTxt ss st = isOne x.toTxt (ss.drop (k + 1)) st) := ⟨by rw [hE1.out, hb]; rfl⟩
        have hB := Sec.mk hb; clear hb hE1
        go_wp2_with fail
        refine (is_any' x sw).asks hp1 hB.out fun w1 hp2 hk2 => ?_
        dsimp only [eB]
        go_wp2_with fail
        have hk3 := hk1.trans hk2
        go_roundg n
        case measure => omega
        case rel => exact ⟨k + 1, ⟨by have := hk.out; omega⟩, by rw [show ((k + 1 : Nat) : Int) = (k : Int) + 1 from by omega], hp2, hk3, hE2⟩

/-- What a call of a closure of the parser's does, while the blocks of L0 are as they are in w0. -/
def OpMeets (x : Cx) (L0 : Nat → Prop) (w0 : World) (f : FuncId) (args : Array Value) (m : M Nat) : Prop :=
  ∀ (L : Nat → Prop) (w : World) (st : PSt), (∀ i, L0 i → L i) → (∀ i, L0 i → w.heap[i]? = w0.heap[i]?) → PW x L w st → m st ≠ .stuck → Calls Try.prog f args w (PostM x L eN w (m st))

set_option maxHeartbeats 1000000 in
theorem chain_any (x : Cx) (f : FuncId) (cap : Array Value) (m : M Nat) (v : Value) (ss : List ByteArray) (hf : ∃ fn c, Try.prog.funcs[f]? = some fn ∧ fn.body = some c ∧ (fn.name == "runtime.NumGoroutine") = false) (L : Nat → Prop) (w : World) (st : PSt) (hp : PW x L w st) (hss : StrsAt w L v ss) (hop : OpMeets x L w f cap m)
    (hns : chain x.toTxt m ss st ≠ .stuck) :
    Calls Try.prog 82 #[pp x.g, .func (.func f) #[] cap, v] w (PostM x L eN w (chain x.toTxt m ss st)) := by
  have hcf : ∀ W : World, (callFunc f cap).run Try.prog W = .ok (.enter f cap) W := by
    intro W
    obtain ⟨fn, c, h1, h2, h3⟩ := hf
    simp [callFunc, h1, h2, beq_eq_false_iff_ne.1 h3]
  generalize hPost : PostM x L eN w (chain x.toTxt m ss st) = Post
  have e0 := Sec.mk hPost; clear hPost
  have hN := Sec.mk hns; clear hns
  have hO := Sec.mk hop; clear hop
  go_enter Try.func82, Try.ntmps82
  go_wp2_with fail
  have hn1 : Sec (m st ≠ .stuck) := ⟨fun h => hN.out (M.bind_stuck h)⟩
  have hsm := hp.small
  refine calls_useM (hO.out L w st (fun _ h => h) (fun _ _ => rfl) hp hn1.out) (fun l0 st0 w0 he hp0 hk0 => ?_) (fun fl w0 he hk0 => ?_)
  rotate_left
  · refine ⟨rfl, ?_⟩
    rw [← e0.out]
    exact Keeps.toBad (M.bind_bad he) hk0
  have hE0 : Sec (chain x.toTxt m ss st = chainL x.toTxt m ss (x.toks.length + 1) l0 st0) := ⟨M.bind_ok he⟩
  clear he hn1
  obtain ⟨sb, sc, hv, hl, hL, hc⟩ := hss
  subst hv
  have hS : Sec (StrsAt w L (.slice (some ⟨sb, 0, none⟩) ss.length sc) ss) := ⟨⟨sb, sc, rfl, hl, hL, hc⟩⟩
  clear hc
  dsimp only [eN]
  go_wp2_with fail
  go_loopg [7, 8] (x.toks.length + 1) (fun n lv nm wr => ∃ (l : Nat) (st1 : PSt), lv = .int .i64 l ∧ PW x L wr st1 ∧ Keeps x.g L w wr ∧ Sec (chain x.toTxt m ss st = chainL x.toTxt m ss n l st1))
  case atStart => exact ⟨l0, st0, rfl, hp0, hk0, hE0⟩
  case round =>
    obtain ⟨l, st1, rfl, hp1, hk1, hE⟩ := hrel
    clear hE0 hp0 hk0
    cases gk with
    | zero => exact absurd (hE.out.trans rfl) hN.out
    | succ n =>
      cases hb : isOne x.toTxt ss st1 with
      | false =>
        have hE1 : Sec (chain x.toTxt m ss st = .ok l st1) := ⟨by rw [hE.out]; simp only [chainL, hb, Bool.false_eq_true, if_false]⟩
        have hB := Sec.mk hb; clear hb hE
        go_wp2_with fail
        refine calls_useOk (isOne_any x _ ss L _ st1 hp1 (hS.out.keep (fun _ h => h) fun b hb => hk1.mine b hb)) (a := false) (st' := st1) (by simp only [ask, hB.out]) fun w1 hp2 hk2 => ?_
        dsimp only [eB]
        go_wp2_with fail
        rw [← e0.out]
        exact hp2.toOk hE1.out (hk1.trans hk2)
      | true =>
        have hE1 : Sec (chain x.toTxt m ss st = M.bind (next x.toTxt) (fun t => M.bind m fun right => M.bind (operate (wordOf x.s t) l right) fun k => chainL x.toTxt m ss n k) st1) := ⟨by rw [hE.out]; simp only [chainL, hb, if_true]⟩
        have hN1 : Sec (next x.toTxt st1 ≠ .stuck) := ⟨fun h => hN.out (hE1.out.trans (M.bind_stuck h))⟩
        have hB := Sec.mk hb; clear hb hE
        go_wp2_with fail
        refine calls_useOk (isOne_any x _ ss L _ st1 hp1 (hS.out.keep (fun _ h => h) fun b hb => hk1.mine b hb)) (a := true) (st' := st1) (by simp only [ask, hB.out]) fun w1 hp2 hk2 => ?_
        dsimp only [eB]
        go_wp2_with fail
        refine (next_any x).use hp2 hN1.out (fun t st2 w2 he hp3 hk3 => ?_) (fun fl w2 he hk3 => ?_)
        rotate_left
        · refine ⟨rfl, ?_⟩
          rw [← e0.out]
          exact Keeps.toBad (hE1.out.trans (M.bind_bad he)) (hk1.trans (hk2.trans hk3))
        have hE2 : Sec (chain x.toTxt m ss st = M.bind m (fun right => M.bind (operate (wordOf x.s t) l right) fun k => chainL x.toTxt m ss n k) st2) := ⟨hE1.out.trans (M.bind_ok he)⟩
        have hk4 := hk1.trans (hk2.trans hk3)
        clear he hE1 hk1 hk2 hk3 hp1 hp2 hN1 hB
        go_wp2_with fail
        refine (pword_any x t).asks hp3 rfl fun w3 hp4 hk5 => ?_
        dsimp only [eS]
        have hN2 : Sec (m st2 ≠ .stuck) := ⟨fun h => hN.out (hE2.out.trans (M.bind_stuck h))⟩
        have hk6 := hk4.trans hk5
        clear hk4 hk5 hp3
        go_wp2_with fail
        refine calls_useM (hO.out L w3 st2 (fun _ h => h) (fun i hi => hk6.mine i hi) hp4 hN2.out) (fun r st3 w4 he hp5 hk7 => ?_) (fun fl w4 he hk7 => ?_)
        rotate_left
        · refine ⟨rfl, ?_⟩
          rw [← e0.out]
          exact Keeps.toBad (hE2.out.trans (M.bind_bad he)) (hk6.trans hk7)
        have hE3 : Sec (chain x.toTxt m ss st = M.bind (operate (wordOf x.s t) l r) (fun k => chainL x.toTxt m ss n k) st3) := ⟨hE2.out.trans (M.bind_ok he)⟩
        have hN3 : Sec (operate (wordOf x.s t) l r st3 ≠ .stuck) := ⟨fun h => hN.out (hE3.out.trans (M.bind_stuck h))⟩
        have hk8 := hk6.trans hk7
        clear he hE2 hN2 hk6 hk7 hp4
        dsimp only [eN]
        go_wp2_with fail
        refine (operate_any x _ l r).use hp5 hN3.out (fun k st4 w5 he hp6 hk9 => ?_) (fun fl w5 he hk9 => ?_)
        rotate_left
        · refine ⟨rfl, ?_⟩
          rw [← e0.out]
          exact Keeps.toBad (hE3.out.trans (M.bind_bad he)) (hk8.trans hk9)
        have hE4 : Sec (chain x.toTxt m ss st = chainL x.toTxt m ss n k st4) := ⟨hE3.out.trans (M.bind_ok he)⟩
        have hk10 := hk8.trans hk9
        clear he hE3 hN3 hk8 hk9 hp5
        dsimp only [eN]
        go_wp2_with fail
        go_roundg n
        case measure => omega
        case rel => exact ⟨k, st4, rfl, hp6, hk10, hE4⟩
end Go.Proofs.Ytkiijfgoaeiphaa

/- The middle of a function of the parser's: what holds between two calls. -/
set_option linter.unusedVariables false
namespace Go.Proofs.Ytkiijfgoaeiphaa
open Go.RowKit

theorem ns_bind {α β : Type} {r : Res β} {m : M α} {k : α → M β} {st : PSt} (hN : r ≠ .stuck) (hE : r = M.bind m k st) : m st ≠ .stuck := fun h => hN (hE.trans (M.bind_stuck h))
theorem ns_last {β : Type} {r r' : Res β} (hN : r ≠ .stuck) (hE : r = r') : r' ≠ .stuck := fun h => hN (hE.trans h)
theorem eq_bind {α β : Type} {r : Res β} {m : M α} {k : α → M β} {st st' : PSt} {a : α} (hE : r = M.bind m k st) (he : m st = .ok a st') : r = k a st' := hE.trans (M.bind_ok he)
theorem bad_bind {α β : Type} {r : Res β} {m : M α} {k : α → M β} {st : PSt} {fl : Flt} (hE : r = M.bind m k st) (he : m st = .bad fl) : r = .bad fl := hE.trans (M.bind_bad he)
theorem nott {b : Bool} (h : b = false) : ¬ b = true := by rw [h]; exact Bool.false_ne_true

/-- A token's parts. -/
theorem run_lo (k lo hi : Int) (W : World) : (Instr.field 31 (.agg #[.int .i64 k, .int .i64 lo, .int .i64 hi]) 1).run Try.prog W = .ok (.int .i64 lo) W := by kernel_rfl
theorem run_hi (k lo hi : Int) (W : World) : (Instr.field 31 (.agg #[.int .i64 k, .int .i64 lo, .int .i64 hi]) 2).run Try.prog W = .ok (.int .i64 hi) W := by kernel_rfl

/-- The call began in w with L; now the world is W, LB is what the callees leave alone. -/
structure Mid (x : Cx) (L : Nat → Prop) (w : World) (LB : Nat → Prop) (W : World) (st : PSt) : Prop where
  pw : PW x LB W st
  keeps : Keeps x.g L w W
  sub : ∀ i, L i → LB i
section
variable {x : Cx} {L LB : Nat → Prop} {w W W' : World} {st st' st0 : PSt}
theorem Mid.start (hp : PW x L w st) : Mid x L w L w st := ⟨hp, Keeps.refl _ _ _, fun _ h => h⟩
theorem Mid.step (h : Mid x L w LB W st) (hk : Keeps x.g LB W W') (hp : PW x LB W' st') : Mid x L w LB W' st' := ⟨hp, h.keeps.trans (hk.weaken h.sub), h.sub⟩
theorem Mid.toOk {α : Type} {enc : α → Value} {m : M α} {a : α} (h : Mid x L w LB W st') (he : m st0 = .ok a st') : PostM x L enc w (m st0) (.returned (enc a)) W := by
  rw [he]; exact ⟨rfl, h.pw.weaken h.sub, h.keeps⟩
theorem Mid.toBad {α : Type} {enc : α → Value} {m : M α} {fl : Flt} (h : Mid x L w LB W st) (he : m st0 = .bad fl) (hk : Keeps x.g LB W W') : PostM x L enc w (m st0) (pfl fl) W' := by
  rw [he]; exact ⟨rfl, h.keeps.trans (hk.weaken h.sub)⟩
theorem Mid.drew (h : Mid x L w LB W st) : Mid x L w LB W.drew st := ⟨h.pw.drew, h.keeps.drew, h.sub⟩
/-- A block of one's own more. -/
theorem Mid.own (h : Mid x L w LB W st) (o : Obj) : Mid x L w (fun i => LB i ∨ i = W.heap.size) (W.alloc o) st :=
  ⟨h.pw.alloc_own o, h.keeps.trans ((h.pw.keepAlloc o).weaken h.sub), fun i hi => .inl (h.sub i hi)⟩
theorem Mid.alloc (h : Mid x L w LB W st) (o : Obj) : Mid x L w LB (W.alloc o) st := ⟨h.pw.alloc o, h.keeps.trans ((h.pw.keepAlloc o).weaken h.sub), h.sub⟩
end
end Go.Proofs.Ytkiijfgoaeiphaa

/- arm. -/
set_option linter.unusedVariables false
set_option linter.unusedSimpArgs false
namespace Go.Proofs.Ytkiijfgoaeiphaa
open Go.RowKit
attribute [local go_sem ↓] Go.wp_at_zero Go.wp_at_succ

theorem arm_any (x : Cx) (d : Nat) (E Pt : M Nat) (hE : Meets x 55 #[pp x.g, .int .i64 d] E eN) (hPt : Meets x 80 #[pp x.g, .int .i64 d] Pt eN) : Meets x 76 #[pp x.g, .int .i64 d] (arm x.toTxt E Pt) eN := by
  have cE := Sec.mk hE
  have cP := Sec.mk hPt
  clear hE hPt
  intro L w st hp hns
  have hE : Eqn ((arm x.toTxt E Pt) st) ((arm x.toTxt E Pt) st) := ⟨rfl⟩
  have hN := Sec.mk hns
  have hM := Mid.start hp
  clear hns
  generalize hPost : PostM x L eN w ((arm x.toTxt E Pt) st) = Post
  have e0 := Sec.mk hPost
  clear hPost
  go_enter Try.func76, Try.ntmps76
  go_wp2_with fail
  refine (cP.out).use hM.pw (ns_bind hN.out hE.out) (fun p st' w' he hp' hk' => ?_) (fun fl w' he hk' => ?_)
  rotate_left
  · exact ⟨rfl, by rw [← e0.out]; exact hM.toBad (bad_bind hE.out he) hk'⟩
  replace hE := Eqn.mk (eq_bind hE.out he)
  clear he
  replace hM := hM.step hk' hp'
  clear hk' hp'
  try dsimp only [eN, eT, eB, eS, eU, eI, eNB]
  go_wp2_with fail
  refine (take_any x ⟨#[45, 62]⟩).use hM.pw (ns_bind hN.out hE.out) (fun t0 st' w' he hp' hk' => ?_) (fun fl w' he hk' => ?_)
  rotate_left
  · exact ⟨rfl, by rw [← e0.out]; exact hM.toBad (bad_bind hE.out he) hk'⟩
  replace hE := Eqn.mk (eq_bind hE.out he)
  clear he
  replace hM := hM.step hk' hp'
  clear hk' hp'
  try dsimp only [eN, eT, eB, eS, eU, eI, eNB]
  go_wp2_with fail
  refine (cE.out).use hM.pw (ns_bind hN.out hE.out) (fun b st' w' he hp' hk' => ?_) (fun fl w' he hk' => ?_)
  rotate_left
  · exact ⟨rfl, by rw [← e0.out]; exact hM.toBad (bad_bind hE.out he) hk'⟩
  replace hE := Eqn.mk (eq_bind hE.out he)
  clear he
  replace hM := hM.step hk' hp'
  clear hk' hp'
  try dsimp only [eN, eT, eB, eS, eU, eI, eNB]
  go_wp2_with fail
  obtain ⟨nf, h1, h2⟩ := fromOf_some (ns_bind hN.out hE.out)
  refine (from_still hM.pw h1).mono ?_
  rintro e w1 ⟨rfl, h⟩
  obtain rfl := h.symm
  replace hE := Eqn.mk (eq_bind hE.out h2)
  clear h1 h2
  go_wp2_with fail
  obtain ⟨nt, h1, h2⟩ := toOf_some (ns_bind hN.out hE.out)
  refine (to_still hM.pw h1).mono ?_
  rintro e w1 ⟨rfl, h⟩
  obtain rfl := h.symm
  replace hE := Eqn.mk (eq_bind hE.out h2)
  clear h1 h2
  go_wp2_with fail
  refine calls_useM (add_any x ⟨16, nf.lo, nt.hi, 0, ⟨#[]⟩, [(p : Int), (b : Int)]⟩ _ _ _ _ (hM.pw.alloc _) (kids_lit _ _ hM.pw.bound [(p : Int), (b : Int)] (by simp)) (ns_last hN.out hE.out)) (fun k st' w' he hp' hk' => ?_) (fun fl w' he hk' => ?_)
  rotate_left
  · exact ⟨rfl, by rw [← e0.out]; exact (hM.alloc _).toBad (hE.out.trans he) hk'⟩
  replace hE := Eqn.mk (hE.out.trans he)
  clear he
  replace hM := (hM.alloc _).step hk' hp'
  clear hk' hp'
  try dsimp only [eN]
  go_wp2_with fail
  rw [← e0.out]
  exact hM.toOk hE.out

end Go.Proofs.Ytkiijfgoaeiphaa

/- atomBegins, closedBegins. -/
set_option linter.unusedVariables false
set_option linter.unusedSimpArgs false
namespace Go.Proofs.Ytkiijfgoaeiphaa
open Go.RowKit
attribute [local go_sem ↓] Go.wp_at_zero Go.wp_at_succ

theorem atomBegins_any (x : Cx) : Meets x 90 #[pp x.g] (ask (atomBegins x.toTxt)) eB := by
  intro L w st hp _
  have hM := Mid.start hp
  generalize hPost : PostM x L eB w (ask (atomBegins x.toTxt) st) = Post
  have e0 := Sec.mk hPost
  clear hPost
  cases hb : isK x.toTxt 1 st with
  | true =>
    have h0 := Sec.mk hb
    clear hb
    go_enter Try.func90, Try.ntmps90
    go_wp2_with fail
    refine (kind_any x 1).asks hM.pw h0.out fun w' hp' hk' => ?_
    replace hM := hM.step hk' hp'
    clear hk' hp'
    try dsimp only [eN, eT, eB, eS, eU, eI, eNB]
    go_wp2_with fail
    rw [← e0.out]
    exact PostM.told (by simp only [atomBegins, h0.out, Bool.false_or, Bool.true_or]; rfl) hM.pw hM.keeps
  | false =>
    have h0 := Sec.mk hb
    clear hb
    cases hb : isK x.toTxt 2 st with
    | true =>
      have h1 := Sec.mk hb
      clear hb
      go_enter Try.func90, Try.ntmps90
      go_wp2_with fail
      refine (kind_any x 1).asks hM.pw h0.out fun w' hp' hk' => ?_
      replace hM := hM.step hk' hp'
      clear hk' hp'
      try dsimp only [eN, eT, eB, eS, eU, eI, eNB]
      go_wp2_with fail
      refine (kind_any x 2).asks hM.pw h1.out fun w' hp' hk' => ?_
      replace hM := hM.step hk' hp'
      clear hk' hp'
      try dsimp only [eN, eT, eB, eS, eU, eI, eNB]
      go_wp2_with fail
      rw [← e0.out]
      exact PostM.told (by simp only [atomBegins, h0.out, h1.out, Bool.false_or, Bool.true_or]; rfl) hM.pw hM.keeps
    | false =>
      have h1 := Sec.mk hb
      clear hb
      cases hb : isW x.toTxt ⟨#[116, 114, 117, 101]⟩ st with
      | true =>
        have h2 := Sec.mk hb
        clear hb
        go_enter Try.func90, Try.ntmps90
        go_wp2_with fail
        refine (kind_any x 1).asks hM.pw h0.out fun w' hp' hk' => ?_
        replace hM := hM.step hk' hp'
        clear hk' hp'
        try dsimp only [eN, eT, eB, eS, eU, eI, eNB]
        go_wp2_with fail
        refine (kind_any x 2).asks hM.pw h1.out fun w' hp' hk' => ?_
        replace hM := hM.step hk' hp'
        clear hk' hp'
        try dsimp only [eN, eT, eB, eS, eU, eI, eNB]
        go_wp2_with fail
        refine (is_any' x ⟨#[116, 114, 117, 101]⟩).asks hM.pw h2.out fun w' hp' hk' => ?_
        replace hM := hM.step hk' hp'
        clear hk' hp'
        try dsimp only [eN, eT, eB, eS, eU, eI, eNB]
        go_wp2_with fail
        rw [← e0.out]
        exact PostM.told (by simp only [atomBegins, h0.out, h1.out, h2.out, Bool.false_or, Bool.true_or]; rfl) hM.pw hM.keeps
      | false =>
        have h2 := Sec.mk hb
        clear hb
        cases hb : isW x.toTxt ⟨#[102, 97, 108, 115, 101]⟩ st with
        | true =>
          have h3 := Sec.mk hb
          clear hb
          go_enter Try.func90, Try.ntmps90
          go_wp2_with fail
          refine (kind_any x 1).asks hM.pw h0.out fun w' hp' hk' => ?_
          replace hM := hM.step hk' hp'
          clear hk' hp'
          try dsimp only [eN, eT, eB, eS, eU, eI, eNB]
          go_wp2_with fail
          refine (kind_any x 2).asks hM.pw h1.out fun w' hp' hk' => ?_
          replace hM := hM.step hk' hp'
          clear hk' hp'
          try dsimp only [eN, eT, eB, eS, eU, eI, eNB]
          go_wp2_with fail
          refine (is_any' x ⟨#[116, 114, 117, 101]⟩).asks hM.pw h2.out fun w' hp' hk' => ?_
          replace hM := hM.step hk' hp'
          clear hk' hp'
          try dsimp only [eN, eT, eB, eS, eU, eI, eNB]
          go_wp2_with fail
          refine (is_any' x ⟨#[102, 97, 108, 115, 101]⟩).asks hM.pw h3.out fun w' hp' hk' => ?_
          replace hM := hM.step hk' hp'
          clear hk' hp'
          try dsimp only [eN, eT, eB, eS, eU, eI, eNB]
          go_wp2_with fail
          rw [← e0.out]
          exact PostM.told (by simp only [atomBegins, h0.out, h1.out, h2.out, h3.out, Bool.false_or, Bool.true_or]; rfl) hM.pw hM.keeps
        | false =>
          have h3 := Sec.mk hb
          clear hb
          cases hb : isW x.toTxt ⟨#[40]⟩ st with
          | true =>
            have h4 := Sec.mk hb
            clear hb
            go_enter Try.func90, Try.ntmps90
            go_wp2_with fail
            refine (kind_any x 1).asks hM.pw h0.out fun w' hp' hk' => ?_
            replace hM := hM.step hk' hp'
            clear hk' hp'
            try dsimp only [eN, eT, eB, eS, eU, eI, eNB]
            go_wp2_with fail
            refine (kind_any x 2).asks hM.pw h1.out fun w' hp' hk' => ?_
            replace hM := hM.step hk' hp'
            clear hk' hp'
            try dsimp only [eN, eT, eB, eS, eU, eI, eNB]
            go_wp2_with fail
            refine (is_any' x ⟨#[116, 114, 117, 101]⟩).asks hM.pw h2.out fun w' hp' hk' => ?_
            replace hM := hM.step hk' hp'
            clear hk' hp'
            try dsimp only [eN, eT, eB, eS, eU, eI, eNB]
            go_wp2_with fail
            refine (is_any' x ⟨#[102, 97, 108, 115, 101]⟩).asks hM.pw h3.out fun w' hp' hk' => ?_
            replace hM := hM.step hk' hp'
            clear hk' hp'
            try dsimp only [eN, eT, eB, eS, eU, eI, eNB]
            go_wp2_with fail
            refine (is_any' x ⟨#[40]⟩).asks hM.pw h4.out fun w' hp' hk' => ?_
            replace hM := hM.step hk' hp'
            clear hk' hp'
            try dsimp only [eN, eT, eB, eS, eU, eI, eNB]
            go_wp2_with fail
            rw [← e0.out]
            exact PostM.told (by simp only [atomBegins, h0.out, h1.out, h2.out, h3.out, h4.out, Bool.false_or, Bool.true_or]; rfl) hM.pw hM.keeps
          | false =>
            have h4 := Sec.mk hb
            clear hb
            go_enter Try.func90, Try.ntmps90
            go_wp2_with fail
            refine (kind_any x 1).asks hM.pw h0.out fun w' hp' hk' => ?_
            replace hM := hM.step hk' hp'
            clear hk' hp'
            try dsimp only [eN, eT, eB, eS, eU, eI, eNB]
            go_wp2_with fail
            refine (kind_any x 2).asks hM.pw h1.out fun w' hp' hk' => ?_
            replace hM := hM.step hk' hp'
            clear hk' hp'
            try dsimp only [eN, eT, eB, eS, eU, eI, eNB]
            go_wp2_with fail
            refine (is_any' x ⟨#[116, 114, 117, 101]⟩).asks hM.pw h2.out fun w' hp' hk' => ?_
            replace hM := hM.step hk' hp'
            clear hk' hp'
            try dsimp only [eN, eT, eB, eS, eU, eI, eNB]
            go_wp2_with fail
            refine (is_any' x ⟨#[102, 97, 108, 115, 101]⟩).asks hM.pw h3.out fun w' hp' hk' => ?_
            replace hM := hM.step hk' hp'
            clear hk' hp'
            try dsimp only [eN, eT, eB, eS, eU, eI, eNB]
            go_wp2_with fail
            refine (is_any' x ⟨#[40]⟩).asks hM.pw h4.out fun w' hp' hk' => ?_
            replace hM := hM.step hk' hp'
            clear hk' hp'
            try dsimp only [eN, eT, eB, eS, eU, eI, eNB]
            go_wp2_with fail
            refine (number_any x).asks hM.pw rfl fun w' hp' hk' => ?_
            replace hM := hM.step hk' hp'
            clear hk' hp'
            try dsimp only [eN, eT, eB, eS, eU, eI, eNB]
            go_wp2_with fail
            rw [← e0.out]
            exact PostM.told (by simp only [atomBegins, h0.out, h1.out, h2.out, h3.out, h4.out, Bool.false_or]; rfl) hM.pw hM.keeps

theorem closedBegins_any (x : Cx) : Meets x 87 #[pp x.g] (ask (closedBegins x.toTxt)) eB := by
  intro L w st hp _
  have hM := Mid.start hp
  generalize hPost : PostM x L eB w (ask (closedBegins x.toTxt) st) = Post
  have e0 := Sec.mk hPost
  clear hPost
  cases hb : isW x.toTxt ⟨#[95]⟩ st with
  | true =>
    have h0 := Sec.mk hb
    clear hb
    go_enter Try.func87, Try.ntmps87
    go_wp2_with fail
    refine (is_any' x ⟨#[95]⟩).asks hM.pw h0.out fun w' hp' hk' => ?_
    replace hM := hM.step hk' hp'
    clear hk' hp'
    try dsimp only [eN, eT, eB, eS, eU, eI, eNB]
    go_wp2_with fail
    rw [← e0.out]
    exact PostM.told (by simp only [closedBegins, h0.out, Bool.false_or, Bool.true_or]; rfl) hM.pw hM.keeps
  | false =>
    have h0 := Sec.mk hb
    clear hb
    go_enter Try.func87, Try.ntmps87
    go_wp2_with fail
    refine (is_any' x ⟨#[95]⟩).asks hM.pw h0.out fun w' hp' hk' => ?_
    replace hM := hM.step hk' hp'
    clear hk' hp'
    try dsimp only [eN, eT, eB, eS, eU, eI, eNB]
    go_wp2_with fail
    refine (atomBegins_any x).asks hM.pw rfl fun w' hp' hk' => ?_
    replace hM := hM.step hk' hp'
    clear hk' hp'
    try dsimp only [eN, eT, eB, eS, eU, eI, eNB]
    go_wp2_with fail
    rw [← e0.out]
    exact PostM.told (by simp only [closedBegins, h0.out, Bool.false_or]; rfl) hM.pw hM.keeps

end Go.Proofs.Ytkiijfgoaeiphaa

/- A row takes another list in: append(list, more...). -/
set_option linter.unusedVariables false
namespace Go.Proofs.Ytkiijfgoaeiphaa
open Go.RowKit

theorem push_kids {ops : Array Oper} {rest : List Oper} {o : Oper} {a : Act} {Q : Exit → Act → World → Prop} {x : Cx} {L Lk L2 : Nat → Prop} {w W : World} {v sv : Value} {l l2 : List Int} {st : PSt}
    (hgd : o.guard = none) (s z : Operand) (ho : o.op = .call { callee := .builtin .append, args := #[s, z], argTypes := #[51, 51] })
    (hs : a.eval s = v) (hz : a.eval z = sv) (hK : KL x L w Lk W v l st) (hr : IntsAt W L2 sv l2) (hl : l.length + l2.length ≤ 9 * most)
    (h : ∀ v' w' Lk', KL x L w Lk' w' v' (l ++ l2) st → wpList Try.prog ops Q rest (a.put o.dst v') w') : wpList Try.prog ops Q (o :: rest) a W := by
  obtain ⟨i0, hi0, hz0, hz1, hz2⟩ := info_parts infoI
  unfold most at hl
  have hg := hK.pw.glt
  have hrow : ∀ k, v.ownBlock = some k → w.heap.size ≤ k := fun k hk => (hK.own.lt k hk).1
  obtain ⟨sa, sc, rfl, h1, h2, h3⟩ := hr
  cases sa with
  | none =>
    have : l2 = [] := by
      cases l2 with
      | nil => rfl
      | cons y r => obtain ⟨b, o, e, _⟩ := h3 (by simp); cases e
    subst this
    rw [List.append_nil] at h
    have hrun : (Builtin.append_ #[51, 51] o.type #[v, .slice none 0 sc]).run Try.prog W = .ok v W := by
      rcases hK.own.2 with ⟨rfl, hn⟩ | ⟨g, cap, cur, rfl, _, _, hnc, _⟩
      · simp [Builtin.append_, run_underlying Try.underlying51, sizeOf, typeInfo, hi0, Builtin.lenOf, Builtin.firstCells]
      · simp [Builtin.append_, run_underlying Try.underlying51, sizeOf, typeInfo, hi0, Builtin.lenOf, Builtin.firstCells, hnc, storeCells]
    refine wpList_plain hgd fun K hK' => ?_
    unfold Oper.wp execOp
    simp only [ho, resolve, invoke, builtin, Sem.run_bind, Sem.run_pure, Result.andThen_ok, List.map_toArray, List.map_cons, List.map_nil, hs, hz, List.length_nil, hrun]
    exact hK' _ _ (h v W Lk hK)
  | some ad =>
    have hcells : ∀ j u, (ints l2)[j]? = some u → W.cell? (ad.add j) = some u := by
      intro j u hu
      have hj : j < l2.length := by
        have := (List.getElem?_eq_some_iff.1 hu).1
        simpa [ints] using this
      obtain ⟨b, o, e, hb, hc⟩ := h3 (by intro e; rw [e] at hj; simp at hj)
      injection e with e
      subst e
      have hu' : u = .int .i64 l2[j] := by
        simp [ints, hj] at hu
        exact hu.symm
      subst hu'
      have := hc j l2[j] (List.getElem?_eq_getElem hj)
      rwa [show (⟨b, o, none⟩ : Addr).add j = ⟨b, o + j, none⟩ by unfold Addr.add; split <;> simp_all]
    obtain ⟨v1, w1, hr1, hown, hgr, _, hat⟩ := run_append_own_at (P := Try.prog) W w.heap.size 51 o.type 3 i0 (.int .i64 0) 1 8 Try.underlying51 hi0 hz0 hz1 hz2 rfl (by omega) v l.length (ints l) hK.own ad l2.length sc (ints l2) (by simp [ints]) hcells
      (by intro u hu; simp only [ints, List.mem_map] at hu; obtain ⟨q, _, rfl⟩ := hu; rfl) (by unfold maxLen; omega) (by omega) hK.keeps.size
    have hK1 : KL x L w (fun i => Lk i ∨ (W.heap.size ≤ i ∧ i < w1.heap.size)) w1 v1 (l ++ l2) st := by
      refine ⟨?_, fun k hk => ?_, fun i hi => .inl (hK.sub i hi), hK.pw.grown hgr (fun k hk => ⟨hK.prot k hk, by have := hrow k hk; have := hK.glt; omega⟩), ?_, hK.glt, hK.lb⟩
      · simpa [ints] using hown
      · rcases hat with hat | hat
        · exact .inl (hK.prot _ (hat ▸ hk))
        · rw [hat] at hk
          injection hk with hk
          subst hk
          have h5 : v1.ownBlock = some W.heap.size := hat
          have := (hown.lt _ h5).2
          exact .inr ⟨Nat.le_refl _, this⟩
      · refine hK.keeps.grown hgr (by omega) (fun i hi => by have := hK.lb i hi; have := hK.keeps.size; omega) (fun k hk => ?_)
        have := hrow k hk
        have := hK.glt
        exact ⟨by omega, fun hc => by have := hK.lb k hc; omega⟩
    refine wpList_plain hgd fun K hK' => ?_
    unfold Oper.wp execOp
    simp only [ho, resolve, invoke, builtin, Sem.run_bind, Sem.run_pure, Result.andThen_ok, List.map_toArray, List.map_cons, List.map_nil, hs, hz, hr1]
    exact hK' _ _ (h v1 w1 _ hK1)

theorem bindsL_nonneg (x : Txt) : ∀ (n : Nat) (l : List Int) (st : PSt) (l' : List Int) (st' : PSt), (∀ y ∈ l, 0 ≤ y) → bindsL x n l st = .ok l' st' → ∀ y ∈ l', 0 ≤ y := by
  intro n
  induction n with
  | zero => intro l st l' st' _ h; cases h
  | succ n ih =>
    intro l st l' st' hl h
    simp only [bindsL] at h
    split at h
    · simp only [M.bind] at h
      split at h
      · rename_i b st1 hb
        refine ih _ _ _ _ ?_ h
        intro y hy
        rcases List.mem_append.1 hy with hy | hy
        · exact hl y hy
        · have : y = (b : Int) := by simpa using hy
          omega
      · cases h
      · cases h
    · cases h; exact hl
theorem binds_nonneg {x : Txt} {st : PSt} {l : List Int} {st' : PSt} (h : binds x st = .ok l st') : ∀ (j : Nat) (y : Int), l[j]? = some y → 0 ≤ y := fun j y hj => bindsL_nonneg x _ [] st l st' (by simp) h y (List.mem_of_getElem? hj)
theorem bindsL_len (x : Txt) : ∀ (n : Nat) (l : List Int) (st : PSt) (l' : List Int) (st' : PSt), bindsL x n l st = .ok l' st' → l'.length ≤ l.length + n := by
  intro n
  induction n with
  | zero => intro l st l' st' h; cases h
  | succ n ih =>
    intro l st l' st' h
    simp only [bindsL] at h
    split at h
    · simp only [M.bind] at h
      split at h
      · have := ih _ _ _ _ h
        simp at this; omega
      · cases h
      · cases h
    · cases h; omega
theorem binds_len {x : Txt} {st : PSt} {l : List Int} {st' : PSt} (h : binds x st = .ok l st') : l.length ≤ x.toks.length + 1 := by
  have := bindsL_len x _ [] st l st' h
  simpa using this
end Go.Proofs.Ytkiijfgoaeiphaa
