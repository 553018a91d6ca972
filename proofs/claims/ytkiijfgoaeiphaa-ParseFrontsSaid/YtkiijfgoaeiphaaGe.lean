/- read's deferred closure. -/
import Derived.Test.YtkiijfgoaeiphaaGd
import Derived.Defers
import Derived.Recover
set_option linter.unusedVariables false
set_option linter.unusedSimpArgs false
namespace Go.Proofs.Ytkiijfgoaeiphaa
open Go.RowKit
attribute [local go_sem ↓] Go.wp_at_zero Go.wp_at_succ

theorem catch_idle (p q : Addr) (w : World) :
    CallsD Try.prog 32 #[.pointer (some p), .pointer (some q)] .returning w fun e u' w' => e = .returned (.tuple #[]) ∧ u' = .returning ∧ w' = w := by
  refine callsD_of_wpS Try.func32 rfl fun c₀ cs hu => ?_
  simp only [Try.ntmps32, List.size_toArray, List.length_cons, List.length_nil, Nat.reduceAdd, Nat.reduceSub, Array.replicate_succ, Array.replicate_zero, List.push_toArray, List.append_toArray, List.nil_append, List.cons_append]
  apply wpS_seq
  apply wpS_region
  simp [wpOpsS, go_sem, recoverD, hu, Exit.thenS]
  refine wpS_of_wp ?_
  go_wp2_with fail
  cases c₀
  simp_all [bodyPostS, results, Try.results32]
/-- What the closure has done behind a fault: the two results are laid. -/
structure Caught (b2 b3 : Nat) (f : Flt) (w w' : World) : Prop where
  os : w'.os = w.os
  tape : w'.tape = w.tape
  output : w'.output = w.output
  size : w.heap.size ≤ w'.heap.size
  far : ∀ i, i < w.heap.size → i ≠ b2 → i ≠ b3 → w'.heap[i]? = w.heap[i]?
  c2 : w'.cell? ⟨b2, 0, none⟩ = some (.slice none 0 0)
  c30 : w'.cell? ⟨b3, 0, none⟩ = some (.int .i64 f.code)
  c31 : w'.cell? ⟨b3, 1, none⟩ = some (.int .i64 f.lo)
  c32 : w'.cell? ⟨b3, 2, none⟩ = some (.int .i64 f.hi)
theorem cell_far {W : World} {b b' i j : Nat} {u v : Value} (h : W.cell? ⟨b', j, none⟩ = some u) (hne : b ≠ b') : (W.setCell ⟨b, i, none⟩ v).cell? ⟨b', j, none⟩ = some u := (World.cell?_setCell_far _ _ _ _ hne).trans h
theorem assert_fault (a b c : Int) (w : World) : (Instr.typeAssert (.iface 25 (.agg #[.int .i64 a, .int .i64 b, .int .i64 c])) 20 25 true).run Try.prog w = .ok (.tuple #[.agg #[.int .i64 a, .int .i64 b, .int .i64 c], .bool true]) w := by kernel_rfl
set_option maxHeartbeats 2000000 in
theorem catch_fault (b2 b3 : Nat) (f : Flt) (w : World) (x2 x30 x31 x32 : Value) (older : List PanicEntry) (hne : b2 ≠ b3) (h2 : b2 < w.heap.size) (h3 : b3 < w.heap.size)
    (c2 : w.cell? ⟨b2, 0, none⟩ = some x2) (c30 : w.cell? ⟨b3, 0, none⟩ = some x30) (c31 : w.cell? ⟨b3, 1, none⟩ = some x31) (c32 : w.cell? ⟨b3, 2, none⟩ = some x32) (f2 : w.frozen? ⟨b2, 0, none⟩ = false) (f30 : w.frozen? ⟨b3, 0, none⟩ = false) (f31 : w.frozen? ⟨b3, 1, none⟩ = false) (f32 : w.frozen? ⟨b3, 2, none⟩ = false) :
    CallsD Try.prog 32 #[.pointer (some ⟨b2, 0, none⟩), .pointer (some ⟨b3, 0, none⟩)] (.panicking ({ v := .iface 25 (.agg #[.int .i64 f.code, .int .i64 f.lo, .int .i64 f.hi]), recovered := false } :: older)) w fun e u' w' => e = .returned (.tuple #[]) ∧ u' = .panicking ({ v := .iface 25 (.agg #[.int .i64 f.code, .int .i64 f.lo, .int .i64 f.hi]), recovered := true } :: older) ∧ Caught b2 b3 f w w' := by
  refine callsD_of_wpS Try.func32 rfl fun c₀ cs hu => ?_
  simp only [Try.ntmps32, List.size_toArray, List.length_cons, List.length_nil, Nat.reduceAdd, Nat.reduceSub, Array.replicate_succ, Array.replicate_zero, List.push_toArray, List.append_toArray, List.nil_append, List.cons_append]
  apply wpS_seq
  apply wpS_region
  simp [wpOpsS, go_sem, recoverD, hu, Exit.thenS]
  refine wpS_of_wp ?_
  have hta := assert_fault
  go_wp2_with fail
  have hk : ∀ b o, b < w.heap.size → (w.alloc (.cells #[.int .i64 f.code, .int .i64 f.lo, .int .i64 f.hi] 25)).cell? ⟨b, o, none⟩ = w.cell? ⟨b, o, none⟩ := fun b o h => World.cell?_alloc_lt _ _ _ h
  have hz : ∀ b o, b < w.heap.size → (w.alloc (.cells #[.int .i64 f.code, .int .i64 f.lo, .int .i64 f.hi] 25)).frozen? ⟨b, o, none⟩ = w.frozen? ⟨b, o, none⟩ := fun b o h => World.frozen?_alloc_past _ _ _ h
  have d2 := (hk b2 0 h2).trans c2
  have d30 := (hk b3 0 h3).trans c30
  have d31 := (hk b3 1 h3).trans c31
  have d32 := (hk b3 2 h3).trans c32
  have e2 := (hz b2 0 h2).trans f2
  have e30 := (hz b3 0 h3).trans f30
  have e31 := (hz b3 1 h3).trans f31
  have e32 := (hz b3 2 h3).trans f32
  have l0 : (w.alloc (.cells #[.int .i64 f.code, .int .i64 f.lo, .int .i64 f.hi] 25)).cell? ⟨w.heap.size, 0, none⟩ = some (.int .i64 f.code) := by simp
  have l1 : (w.alloc (.cells #[.int .i64 f.code, .int .i64 f.lo, .int .i64 f.hi] 25)).cell? ⟨w.heap.size, 1, none⟩ = some (.int .i64 f.lo) := by simp
  have l2 : (w.alloc (.cells #[.int .i64 f.code, .int .i64 f.lo, .int .i64 f.hi] 25)).cell? ⟨w.heap.size, 2, none⟩ = some (.int .i64 f.hi) := by simp
  have hn2 : w.heap.size ≠ b2 := by omega
  have hn3 : w.heap.size ≠ b3 := by omega
  have hne' : b3 ≠ b2 := Ne.symm hne
  clear hk hz c2 c30 c31 c32 f2 f30 f31 f32
  have hZ : Sec ((w.alloc (.cells #[.int .i64 f.code, .int .i64 f.lo, .int .i64 f.hi] 25)).os = w.os ∧ (w.alloc (.cells #[.int .i64 f.code, .int .i64 f.lo, .int .i64 f.hi] 25)).tape = w.tape ∧ (w.alloc (.cells #[.int .i64 f.code, .int .i64 f.lo, .int .i64 f.hi] 25)).output = w.output ∧ w.heap.size ≤ (w.alloc (.cells #[.int .i64 f.code, .int .i64 f.lo, .int .i64 f.hi] 25)).heap.size) := ⟨rfl, rfl, rfl, by simp⟩
  have hfar : ∀ i, i < w.heap.size → (w.alloc (.cells #[.int .i64 f.code, .int .i64 f.lo, .int .i64 f.hi] 25)).heap[i]? = w.heap[i]? := fun i hi => Below.heap_alloc _ _ _ hi
  have hF := Sec.mk hfar
  clear hfar
  generalize w.alloc (.cells #[.int .i64 f.code, .int .i64 f.lo, .int .i64 f.hi] 25) = W at *
  generalize hn : w.heap.size = n at *
  have hnS := Sec.mk hn
  clear hn
  go_region
  show bodyPostS _ _ _ _ _ _ _ _ _
  refine ⟨rfl, _, rfl, .tuple #[], results_none rfl _ _ _, rfl, rfl, ?_⟩
  obtain ⟨z1, z2, z3, z4⟩ := hZ.out
  refine ⟨z1, z2, z3, ?_, fun i hi h2 h3 => ?_, ?_, ?_, ?_, ?_⟩
  · show w.heap.size ≤ (World.setCell _ _ _).heap.size
    have := hnS.out
    simp; omega
  · show (World.setCell _ _ _).heap[i]? = _
    rw [Below.heap_setCell _ _ _ _ h3, Below.heap_setCell _ _ _ _ h3, Below.heap_setCell _ _ _ _ h3, Below.heap_setCell _ _ _ _ h2]
    exact hF.out i (by have := hnS.out; omega)
  · show (World.setCell _ _ _).cell? _ = _
    rw [World.cell?_setCell_far _ _ _ _ hne', World.cell?_setCell_far _ _ _ _ hne', World.cell?_setCell_far _ _ _ _ hne']
    exact cell_on d2
  · show (World.setCell _ _ _).cell? _ = _
    exact cell_off (cell_off (cell_on (cell_far d30 hne)) (by decide)) (by decide)
  · show (World.setCell _ _ _).cell? _ = _
    exact cell_off (cell_on (cell_off (cell_far d31 hne) (by decide))) (by decide)
  · show (World.setCell _ _ _).cell? _ = _
    exact cell_on (cell_off (cell_off (cell_far d32 hne) (by decide)) (by decide))
end Go.Proofs.Ytkiijfgoaeiphaa

/- read. -/
set_option linter.unusedVariables false
set_option linter.unusedSimpArgs false
namespace Go.Proofs.Ytkiijfgoaeiphaa
open Go.RowKit
attribute [local go_sem ↓] Go.wp_at_zero Go.wp_at_succ

theorem lexF_len : ∀ (n k : Nat) (l : Bs), (lexF n k l).length ≤ l.length := by
  intro n
  induction n with
  | zero => intro k l; exact Nat.zero_le _
  | succ n ih =>
    intro k l
    cases l with
    | nil => exact Nat.le_refl _
    | cons c r =>
      rw [lexF]
      split
      · have := ih (k + 1) r
        simp; omega
      · split
        · split
          · have := ih (k + (remark 0 (c :: r)).1) ((c :: r).drop (remark 0 (c :: r)).1)
            rw [List.length_drop] at this
            omega
          · simp
        · split
          · have := ih (k + (nothing r + 1)) ((c :: r).drop (nothing r + 1))
            rw [List.length_drop] at this
            simp only [List.length_cons] at this ⊢; omega
          · have := ih (k + (token (c :: r)).2) ((c :: r).drop (token (c :: r)).2)
            have h2 := token_le (c :: r)
            rw [List.length_drop] at this
            simp only [List.length_cons] at this h2 ⊢; omega
theorem lex_len (s : ByteArray) : (lex s).length ≤ s.size := by
  have := lexF_len s.size 0 s.data.toList
  simpa [lex] using this

/-- Nodes that are handed out: their row and its parts are new memory. -/
def Given (w W : World) (nv : Value) (ns : List Nd) : Prop := ∃ cs, W.ownsRow w.heap.size 53 6 nv ns.length cs ∧ NdsIn W (fun i => i < w.heap.size) ns cs
abbrev eF (f : Flt) : Value := .agg #[.int .i64 f.code, .int .i64 f.lo, .int .i64 f.hi]
/-- How a call ends that answers nodes or a fault. -/
def PostRead (w : World) (r : Res Unit) (e : Ending) (w' : World) : Prop :=
  match r with
  | .ok _ st => Below w.heap.size w w' ∧ ∃ nv, e = .returned (.tuple #[nv, .agg #[.int .i64 0, .int .i64 0, .int .i64 0]]) ∧ Given w w' nv st.nodes
  | .bad f => Below w.heap.size w w' ∧ e = .returned (.tuple #[.slice none 0 0, eF f])
  | .stuck => False
/-- The parser as it begins. -/
theorem PW.begin (s : ByteArray) (hs : s.size ≤ most) {W0 W1 : World} {v : Value} (hT : TL W0 W1 v (lex s)) (n : Nat) (hn : n ≤ W0.heap.size) :
    PW ⟨⟨s, lex s⟩, v, W1.heap.size⟩ (fun i => i < n) (W1.alloc (.cells #[.string s, v, .int .i64 0, .slice none 0 0] 71)) ⟨0, []⟩ := by
  have hs1 := lex_len s
  have hb := hT.below.size
  have hm : most ≤ maxLen := by unfold most maxLen; omega
  refine ⟨fun i hi => by simp; omega, by simp, fun hc => by have : W1.heap.size < n := hc; omega, ?_, Nat.zero_le _, Nat.le_trans hs1 hs, Nat.le_trans hs hm, _, [], heap_alloc_new _ _, World.ownsRow_nil _ _ _ _, fun k h => by simp [Value.ownBlock] at h, ⟨rfl, fun j n hj => by simp at hj⟩⟩
  obtain ⟨a, c, h1, h2, h3⟩ := hT.reads (by omega)
  refine ⟨a, c, h1, h2, fun hne => ?_⟩
  obtain ⟨b, o, e, hb, hc⟩ := h3 hne
  exact ⟨b, o, e, hb.2, fun j t hj i u hu => (World.cell?_alloc_lt _ _ _ hb.2).trans (hc j t hj i u hu)⟩

theorem own_mono {w : World} {base base' : Nat} {e : TypeId} {size : Nat} {v : Value} {n : Nat} {xs : List Value} (h : w.ownsRow base e size v n xs) (hb : base' ≤ base) : w.ownsRow base' e size v n xs :=
  ⟨h.1, h.2.imp id fun ⟨g, cap, cur, e, h1, r⟩ => ⟨g, cap, cur, e, Nat.le_trans hb h1, r⟩⟩
theorem block_facts {W : World} {n : Nat} {cs : Array Value} {t : TypeId} (h : W.heap[n]? = some (.cells cs t (0, 0))) : (∀ j (hj : j < cs.size), W.cell? ⟨n, j, none⟩ = some cs[j]) ∧ ∀ j, W.frozen? ⟨n, j, none⟩ = false := by
  refine ⟨fun j hj => ?_, fun j => ?_⟩
  · rw [cell_of_row W n j _ _ _ h]; simp [hj]
  · simp [World.frozen?, h]
abbrev B2 : Obj := .cells #[.slice none 0 0] 23
abbrev B3 : Obj := .cells #[.int .i64 0, .int .i64 0, .int .i64 0] 25

theorem below_caught {n b2 b3 : Nat} {f : Flt} {w W W' : World} (h : Below n w W) (hc : Caught b2 b3 f W W') (h2 : n ≤ b2) (h3 : n ≤ b3) (hn : n ≤ W.heap.size) : Below n w W' :=
  h.trans ⟨hc.os, hc.tape, hc.output, hc.size, fun i hi => hc.far i (by omega) (by omega) (by omega)⟩

set_option maxRecDepth 100000 in
set_option maxHeartbeats 2000000 in
theorem read_any (s : ByteArray) (hs : s.size ≤ most) (w : World) (hns : whole ⟨s, lex s⟩ ⟨0, []⟩ ≠ .stuck) : Calls Try.prog 20 #[.string s] w (PostRead w (whole ⟨s, lex s⟩ ⟨0, []⟩)) := by
  have hmf : ∀ (fn : Fn) (first cap : Array Value) (w : World), (Instr.makeFunc fn first cap).run Try.prog w = .ok (.func fn first cap) w := fun _ _ _ _ => rfl
  generalize hPost : PostRead w (whole ⟨s, lex s⟩ ⟨0, []⟩) = Post
  have e0 := Sec.mk hPost
  have hN := Sec.mk hns
  clear hPost hns
  go_enter_defers Try.func20, Try.ntmps20
  go_wp2_with fail
  refine (lex_any s hs _).mono ?_
  rintro e W1 ⟨v, rfl, hT⟩
  have hp := PW.begin s hs hT (w.heap.size + 2) (by simp)
  have hb2 : W1.heap[w.heap.size]? = some B2 := (hT.below.block _ (by simp; omega)).trans ((Below.heap_alloc _ _ _ (by simp)).trans (heap_alloc_new w _))
  have hb3 : W1.heap[w.heap.size + 1]? = some B3 := (hT.below.block _ (by simp)).trans (by rw [show w.heap.size + 1 = (w.alloc B2).heap.size by simp]; exact heap_alloc_new (w.alloc B2) _)
  have hB : Below w.heap.size w W1 := (((Below.refl _ w).alloc (Nat.le_refl _) B2).alloc (by simp) B3).trans (hT.below.mono (by simp; omega))
  have hws : w.heap.size + 2 ≤ W1.heap.size := by have := hT.below.size; simp at this; omega
  obtain ⟨sa, sc, hv⟩ := hT.shape
  subst hv
  clear hT
  go_wp2_with fail
  refine (decl_any ⟨⟨s, lex s⟩, .slice sa (lex s).length sc, W1.heap.size⟩).use hp (fun h => hN.out (M.bind_stuck h)) (fun u st1 W3 he hp3 hk3 => ?_) (fun fl W3 he hk3 => ?_)
  · have c12 := hp3.cells12
    obtain ⟨c1, c2⟩ := c12
    have hlen := (lex_len s)
    have hwE : Sec (whole ⟨s, lex s⟩ ⟨0, []⟩ = if st1.pos < (lex s).length then fail ⟨s, lex s⟩ 1 st1 else .ok () st1) := ⟨M.bind_ok he⟩
    clear he
    dsimp only at c1 c2
    by_cases hlt : st1.pos < (lex s).length
    · have hd : (st1.pos : Int) < ((lex s).length : Int) := by omega
      go_wp2_with fail
      go_quiet (fail)
      go_wp2_with fail
      refine (fail_any ⟨⟨s, lex s⟩, .slice sa (lex s).length sc, W1.heap.size⟩ 1).fails (hp3.drewN _) (fun fl W4 he hk4 => ?_)
      replace hk3 := hk3.trans ((Keeps.refl _ _ W3).drewN _ |>.trans hk4)
      have hE : whole ⟨s, lex s⟩ ⟨0, []⟩ = .bad fl := by rw [hwE.out, if_pos hlt]; exact he
      have hb2' := (hk3.mine w.heap.size (by simp)).trans ((Below.heap_alloc _ _ _ (by omega)).trans hb2)
      have hb3' := (hk3.mine (w.heap.size + 1) (by simp)).trans ((Below.heap_alloc _ _ _ (by omega)).trans hb3)
      have hbW : Below w.heap.size w W4 := (hB.alloc hB.size _).trans ⟨hk3.os, hk3.tape, hk3.output, hk3.size, fun i hi => hk3.below i (by have := hB.size; show i < W1.heap.size; omega)⟩
      have f2 := block_facts hb2'
      have f3 := block_facts hb3'
      refine leaves_cons (f := 32) (args := #[.pointer (some ⟨w.heap.size, 0, none⟩), .pointer (some ⟨w.heap.size + 1, 0, none⟩)]) (by simp) (by simp [go_sem]) ?_
      refine (catch_fault w.heap.size (w.heap.size + 1) fl W4 _ _ _ _ [] (by omega) (heap_lt hb2') (heap_lt hb3') (f2.1 0 (by simp)) (f3.1 0 (by simp)) (f3.1 1 (by simp)) (f3.1 2 (by simp)) (f2.2 0) (f3.2 0) (f3.2 1) (f3.2 2)).mono ?_
      rintro e u' w'' ⟨rfl, rfl, hc⟩
      have c2 := hc.c2
      have c30 := hc.c30
      have c31 := hc.c31
      have c32 := hc.c32
      simp [Leaves, settle, results, Try.results20, go_sem, c2, c30, c31, c32]
      rw [← e0.out, hE]
      exact ⟨below_caught hbW hc (by omega) (by omega) hbW.size, rfl⟩
    · have hd : decide ((st1.pos : Int) < ((lex s).length : Int)) = false := by simp; omega
      go_wp2_with fail
      go_quiet (fail)
      obtain ⟨nv, c0, c1, c2, c3, fz, cs, hown, hnd⟩ := hp3.open
      have hb2' := (hk3.mine w.heap.size (by simp)).trans ((Below.heap_alloc _ _ _ (by omega)).trans hb2)
      have hb3' := (hk3.mine (w.heap.size + 1) (by simp)).trans ((Below.heap_alloc _ _ _ (by omega)).trans hb3)
      have f2 := block_facts hb2'
      have f3 := block_facts hb3'
      have k20 := f2.1 0 (by simp)
      have k30 := f3.1 0 (by simp)
      have k31 := f3.1 1 (by simp)
      have k32 := f3.1 2 (by simp)
      have z2 := f2.2
      have z3 := f3.2
      simp only [List.getElem_toArray, List.getElem_cons_zero, List.getElem_cons_succ] at k20 k30 k31 k32
      clear f2 f3 hb2' hb3' fz c0
      dsimp only at c3
      obtain ⟨na, nc, hnv⟩ : ∃ a c, nv = .slice a st1.nodes.length c := by
        rcases hown.2 with ⟨rfl, h0⟩ | ⟨g, cap, cur, rfl, _⟩
        · exact ⟨none, 0, by rw [h0]⟩
        · exact ⟨_, cap, rfl⟩
      subst hnv
      have hO := Sec.mk hown
      have hD := Sec.mk hnd
      clear hown hnd
      go_wp2_with fail
      obtain ⟨W5, hW5⟩ : ∃ W5, W5 = (((((W3.drewN nq).setCell ⟨w.heap.size, 0, none⟩ (.slice na st1.nodes.length nc)).setCell ⟨w.heap.size + 1, 0, none⟩ (.int .i64 0)).setCell ⟨w.heap.size + 1, 1, none⟩ (.int .i64 0)).setCell ⟨w.heap.size + 1, 2, none⟩ (.int .i64 0)) := ⟨_, rfl⟩
      have q20 : W5.cell? ⟨w.heap.size, 0, none⟩ = some (.slice na st1.nodes.length nc) := by
        rw [hW5]; exact cell_far (cell_far (cell_far (cell_on (W := W3.drewN nq) k20) (by omega)) (by omega)) (by omega)
      have q30 : W5.cell? ⟨w.heap.size + 1, 0, none⟩ = some (.int .i64 0) := by
        rw [hW5]; exact cell_off (cell_off (cell_on (cell_far (W := W3.drewN nq) k30 (by omega))) (by decide)) (by decide)
      have q31 : W5.cell? ⟨w.heap.size + 1, 1, none⟩ = some (.int .i64 0) := by
        rw [hW5]; exact cell_off (cell_on (cell_off (cell_far (W := W3.drewN nq) k31 (by omega)) (by decide))) (by decide)
      have q32 : W5.cell? ⟨w.heap.size + 1, 2, none⟩ = some (.int .i64 0) := by
        rw [hW5]; exact cell_on (cell_off (cell_off (cell_far (W := W3.drewN nq) k32 (by omega)) (by decide)) (by decide))
      have hfar : Sec (∀ i, i ≠ w.heap.size → i ≠ w.heap.size + 1 → W5.heap[i]? = W3.heap[i]?) := ⟨fun i h2 h3 => by
        rw [hW5, Below.heap_setCell _ _ _ _ h3, Below.heap_setCell _ _ _ _ h3, Below.heap_setCell _ _ _ _ h3, Below.heap_setCell _ _ _ _ h2]; rfl⟩
      have hrest : Sec (W5.os = W3.os ∧ W5.tape = W3.tape ∧ W5.output = W3.output ∧ W3.heap.size ≤ W5.heap.size) := ⟨by rw [hW5]; exact ⟨rfl, rfl, rfl, by simp⟩⟩
      rw [← hW5]
      clear hW5 k20 k30 k31 k32 z2 z3 c1 c2 c3
      refine leaves_cons (f := 32) (args := #[.pointer (some ⟨w.heap.size, 0, none⟩), .pointer (some ⟨w.heap.size + 1, 0, none⟩)]) (by simp) (by simp [go_sem]) ?_
      refine (catch_idle _ _ _).mono ?_
      rintro e u' w'' ⟨rfl, rfl, rfl⟩
      simp [Leaves, settle, results, Try.results20, go_sem, q20, q30, q31, q32]
      rw [← e0.out, hwE.out, if_neg hlt]
      obtain ⟨r1, r2, r3, r4⟩ := hrest.out
      refine ⟨(hB.alloc hB.size _).trans ⟨r1.trans hk3.os, r2.trans hk3.tape, r3.trans hk3.output, Nat.le_trans hk3.size r4, fun i hi => (hfar.out i (by omega) (by omega)).trans (hk3.below i (by show i < W1.heap.size; omega))⟩, _, rfl, cs, ?_, ?_⟩
      · exact ownsRow_of_heap (own_mono hO.out (by omega)) fun k hk => hfar.out k (by have := (hO.out.lt k hk).1; omega) (by have := (hO.out.lt k hk).1; omega)
      · exact hD.out.keep fun b cur fr hb hh => ⟨fun hc => hb (by show b < w.heap.size + 2; omega), hfar.out b (fun e => hb (by show b < w.heap.size + 2; omega)) (fun e => hb (by show b < w.heap.size + 2; omega))⟩
  · have hb2' := (hk3.mine w.heap.size (by simp)).trans ((Below.heap_alloc _ _ _ (by omega)).trans hb2)
    have hb3' := (hk3.mine (w.heap.size + 1) (by simp)).trans ((Below.heap_alloc _ _ _ (by omega)).trans hb3)
    have hbW : Below w.heap.size w W3 := (hB.alloc hB.size _).trans ⟨hk3.os, hk3.tape, hk3.output, hk3.size, fun i hi => hk3.below i (by have := hB.size; show i < W1.heap.size; omega)⟩
    have hE : whole ⟨s, lex s⟩ ⟨0, []⟩ = .bad fl := M.bind_bad he
    have f2 := block_facts hb2'
    have f3 := block_facts hb3'
    refine leaves_cons (f := 32) (args := #[.pointer (some ⟨w.heap.size, 0, none⟩), .pointer (some ⟨w.heap.size + 1, 0, none⟩)]) (by simp) (by simp [go_sem]) ?_
    refine (catch_fault w.heap.size (w.heap.size + 1) fl W3 _ _ _ _ [] (by omega) (heap_lt hb2') (heap_lt hb3') (f2.1 0 (by simp)) (f3.1 0 (by simp)) (f3.1 1 (by simp)) (f3.1 2 (by simp)) (f2.2 0) (f3.2 0) (f3.2 1) (f3.2 2)).mono ?_
    rintro e u' w'' ⟨rfl, rfl, hc⟩
    have c2 := hc.c2
    have c30 := hc.c30
    have c31 := hc.c31
    have c32 := hc.c32
    simp [Leaves, settle, results, Try.results20, go_sem, c2, c30, c31, c32]
    rw [← e0.out, hE]
    exact ⟨below_caught hbW hc (by omega) (by omega) hbW.size, rfl⟩
end Go.Proofs.Ytkiijfgoaeiphaa

/- One. -/
set_option linter.unusedVariables false
set_option linter.unusedSimpArgs false
namespace Go.Proofs.Ytkiijfgoaeiphaa
open Go.RowKit
attribute [local go_sem ↓] Go.wp_at_zero Go.wp_at_succ

/-- One's answer, plainly. -/
def one (s : ByteArray) : List Nd × Flt :=
  match whole ⟨s, lex s⟩ ⟨0, []⟩ with
  | .ok _ st => if 4096 < st.nodes.length then ([], ⟨3, 0, s.size⟩) else (st.nodes, ⟨0, 0, 0⟩)
  | .bad f => if f.code = 0 then ([], ⟨0, 0, 0⟩) else ([], f)
  | .stuck => ([], ⟨0, 0, 0⟩)
/-- How a call ends that answers nodes and a fault. -/
def PostOne (w : World) (r : List Nd × Flt) (e : Ending) (w' : World) : Prop :=
  Below w.heap.size w w' ∧ ∃ nv, e = .returned (.tuple #[nv, eF r.2]) ∧ Given w w' nv r.1
theorem Given.nil (w W : World) : Given w W (.slice none 0 0) [] := ⟨[], World.ownsRow_nil _ _ _ _, rfl, fun j n h => by simp at h⟩
/-- What is given is so still, seen from an elder world, and behind steps that leave the new memory alone. -/
theorem Given.keep {w0 w W W' : World} {nv : Value} {ns : List Nd} (h : Given w W nv ns) (h0 : w0.heap.size ≤ w.heap.size) (hk : ∀ i, w.heap.size ≤ i → i < W.heap.size → W'.heap[i]? = W.heap[i]?) : Given w0 W' nv ns := by
  obtain ⟨cs, h1, h2⟩ := h
  refine ⟨cs, ownsRow_of_heap (own_mono h1 h0) fun k hk' => hk k (h1.lt k hk').1 (h1.lt k hk').2, h2.keep fun b cur fr hb hh => ⟨fun hc => hb (by omega), hk b (by omega) (heap_lt hh)⟩⟩
theorem Given.shape {w W : World} {nv : Value} {ns : List Nd} (h : Given w W nv ns) : ∃ a c, nv = .slice a ns.length c := by
  obtain ⟨cs, h1, _⟩ := h
  rcases h1.2 with ⟨rfl, h0⟩ | ⟨g, cap, cur, rfl, _⟩
  · exact ⟨none, 0, by rw [h0]⟩
  · exact ⟨_, cap, rfl⟩
abbrev BF (a b c : Int) : Obj := .cells #[.int .i64 a, .int .i64 b, .int .i64 c] 25

set_option maxHeartbeats 2000000 in
theorem one_any (s : ByteArray) (hs : s.size ≤ most) (w : World) (hns : whole ⟨s, lex s⟩ ⟨0, []⟩ ≠ .stuck) : Calls Try.prog 10 #[.string s] w (PostOne w (one s)) := by
  generalize hPost : PostOne w (one s) = Post
  have e0 := Sec.mk hPost
  have hN := Sec.mk hns
  have hs' : (s.size : Int) ≤ 1000000000 := by unfold most at hs; omega
  clear hPost hns
  go_enter Try.func10, Try.ntmps10
  go_wp2_with fail
  refine (read_any s hs _ hN.out).mono ?_
  intro e W hq
  have hO : Sec (one s = match whole ⟨s, lex s⟩ ⟨0, []⟩ with
    | .ok _ st => if 4096 < st.nodes.length then ([], ⟨3, 0, s.size⟩) else (st.nodes, ⟨0, 0, 0⟩)
    | .bad f => if f.code = 0 then ([], ⟨0, 0, 0⟩) else ([], f)
    | .stuck => ([], ⟨0, 0, 0⟩)) := ⟨rfl⟩
  generalize whole ⟨s, lex s⟩ ⟨0, []⟩ = r at hq hO hN
  have hblk : W.heap[w.heap.size]? = some (BF 0 0 0) := by
    have hb : Below (w.alloc (BF 0 0 0)).heap.size (w.alloc (BF 0 0 0)) W := by
      cases r with
      | stuck => exact absurd rfl hN.out
      | bad f => exact hq.1
      | ok u st => exact hq.1
    exact (hb.block _ (by simp)).trans (heap_alloc_new w _)
  cases r with
  | stuck => exact absurd rfl hN.out
  | bad f =>
    obtain ⟨hB, rfl⟩ := hq
    have hb : Below w.heap.size w W := ((Below.refl _ w).alloc (Nat.le_refl _) (BF 0 0 0)).trans (hB.mono (by simp))
    dsimp only at hO
    by_cases hc : f.code = 0
    · replace hO := Sec.mk (hO.out.trans (if_pos hc))
      have hc' : (f.code : Int) = 0 := by omega
      have hc2 : ((f.code : Int) == 0) = true := beq_iff_eq.2 hc'
      have k := block_facts (hblk : W.heap[w.heap.size]? = some (BF 0 0 0))
      have hlt0 : w.heap.size < W.heap.size := heap_lt hblk
      have l0 : (W.alloc (.cells #[.int .i64 0, .int .i64 f.lo, .int .i64 f.hi] 25)).cell? ⟨W.heap.size, 0, none⟩ = some (.int .i64 0) := by simp
      have l1 : (W.alloc (.cells #[.int .i64 0, .int .i64 f.lo, .int .i64 f.hi] 25)).cell? ⟨W.heap.size, 1, none⟩ = some (.int .i64 f.lo) := by simp
      have l2 : (W.alloc (.cells #[.int .i64 0, .int .i64 f.lo, .int .i64 f.hi] 25)).cell? ⟨W.heap.size, 2, none⟩ = some (.int .i64 f.hi) := by simp
      have d0 : (W.alloc (.cells #[.int .i64 0, .int .i64 f.lo, .int .i64 f.hi] 25)).cell? ⟨w.heap.size, 0, none⟩ = some (.int .i64 0) := by rw [World.cell?_alloc_lt _ _ _ hlt0]; exact k.1 0 (by simp)
      have d1 : (W.alloc (.cells #[.int .i64 0, .int .i64 f.lo, .int .i64 f.hi] 25)).cell? ⟨w.heap.size, 1, none⟩ = some (.int .i64 0) := by rw [World.cell?_alloc_lt _ _ _ hlt0]; exact k.1 1 (by simp)
      have d2 : (W.alloc (.cells #[.int .i64 0, .int .i64 f.lo, .int .i64 f.hi] 25)).cell? ⟨w.heap.size, 2, none⟩ = some (.int .i64 0) := by rw [World.cell?_alloc_lt _ _ _ hlt0]; exact k.1 2 (by simp)
      have z0 : ∀ j, (W.alloc (.cells #[.int .i64 0, .int .i64 f.lo, .int .i64 f.hi] 25)).frozen? ⟨w.heap.size, j, none⟩ = false := fun j => by rw [World.frozen?_alloc_past _ _ _ hlt0]; exact k.2 j
      have hW1 : Sec ((W.alloc (.cells #[.int .i64 0, .int .i64 f.lo, .int .i64 f.hi] 25)).os = W.os ∧ (W.alloc (.cells #[.int .i64 0, .int .i64 f.lo, .int .i64 f.hi] 25)).tape = W.tape ∧ (W.alloc (.cells #[.int .i64 0, .int .i64 f.lo, .int .i64 f.hi] 25)).output = W.output ∧ W.heap.size ≤ (W.alloc (.cells #[.int .i64 0, .int .i64 f.lo, .int .i64 f.hi] 25)).heap.size ∧ ∀ i, i < W.heap.size → (W.alloc (.cells #[.int .i64 0, .int .i64 f.lo, .int .i64 f.hi] 25)).heap[i]? = W.heap[i]?) := ⟨by exact ⟨rfl, rfl, rfl, by simp, fun i hi => Below.heap_alloc _ _ _ hi⟩⟩
      have hne : W.heap.size ≠ w.heap.size := by omega
      have v0 := k.1 0 (by simp)
      have v1 := k.1 1 (by simp)
      have v2 := k.1 2 (by simp)
      have vz := k.2
      simp only [List.getElem_toArray, List.getElem_cons_zero, List.getElem_cons_succ] at v0 v1 v2
      clear k
      go_wp2_with fail
      obtain ⟨W5, hW5⟩ : ∃ W5, W5 = (((W.setCell ⟨w.heap.size, 0, none⟩ (.int .i64 0)).setCell ⟨w.heap.size, 1, none⟩ (.int .i64 0)).setCell ⟨w.heap.size, 2, none⟩ (.int .i64 0)).alloc (.cells #[.int .i64 0, .int .i64 f.lo, .int .i64 f.hi] 25) := ⟨_, rfl⟩
      have q0 : W5.cell? ⟨w.heap.size, 0, none⟩ = some (.int .i64 0) := by
        rw [hW5, World.cell?_alloc_lt _ _ _ (by simpa using hlt0)]; exact cell_off (cell_off (cell_on v0) (by decide)) (by decide)
      have q1 : W5.cell? ⟨w.heap.size, 1, none⟩ = some (.int .i64 0) := by
        rw [hW5, World.cell?_alloc_lt _ _ _ (by simpa using hlt0)]; exact cell_off (cell_on (cell_off v1 (by decide))) (by decide)
      have q2 : W5.cell? ⟨w.heap.size, 2, none⟩ = some (.int .i64 0) := by
        rw [hW5, World.cell?_alloc_lt _ _ _ (by simpa using hlt0)]; exact cell_on (cell_off (cell_off v2 (by decide)) (by decide))
      have hfar : Sec (∀ i, i < W.heap.size → i ≠ w.heap.size → W5.heap[i]? = W.heap[i]?) := ⟨fun i hi h2 => by
        rw [hW5, Below.heap_alloc _ _ _ (by simpa using hi), Below.heap_setCell _ _ _ _ h2, Below.heap_setCell _ _ _ _ h2, Below.heap_setCell _ _ _ _ h2]⟩
      have hrest : Sec (W5.os = W.os ∧ W5.tape = W.tape ∧ W5.output = W.output ∧ W.heap.size ≤ W5.heap.size) := ⟨by rw [hW5]; exact ⟨rfl, rfl, rfl, by simp⟩⟩
      rw [← hW5]
      clear hW5 d0 d1 d2 z0 v0 v1 v2 vz l0 l1 l2
      refine bodyPost_ret (v := .tuple #[.slice none 0 0, .agg #[.int .i64 0, .int .i64 0, .int .i64 0]]) (by simp [results, Try.results10, go_sem, q0, q1, q2]) rfl ?_
      obtain ⟨r1, r2, r3, r4⟩ := hrest.out
      rw [← e0.out, hO.out]
      refine ⟨hb.trans ⟨r1, r2, r3, r4, fun i hi => hfar.out i (by omega) (by omega)⟩, _, rfl, Given.nil _ _⟩
    · replace hO := Sec.mk (hO.out.trans (if_neg hc))
      have hc' : ¬ (f.code : Int) = 0 := by omega
      have hc2 : ((f.code : Int) == 0) = false := beq_eq_false_iff_ne.2 hc'
      have k := block_facts (hblk : W.heap[w.heap.size]? = some (BF 0 0 0))
      have hlt0 : w.heap.size < W.heap.size := heap_lt hblk
      obtain ⟨W1, hW1e⟩ : ∃ W1, W1 = W.alloc (BF f.code f.lo f.hi) := ⟨_, rfl⟩
      have l0 : W1.cell? ⟨W.heap.size, 0, none⟩ = some (.int .i64 f.code) := by rw [hW1e]; simp
      have l1 : W1.cell? ⟨W.heap.size, 1, none⟩ = some (.int .i64 f.lo) := by rw [hW1e]; simp
      have l2 : W1.cell? ⟨W.heap.size, 2, none⟩ = some (.int .i64 f.hi) := by rw [hW1e]; simp
      have d0 : W1.cell? ⟨w.heap.size, 0, none⟩ = some (.int .i64 0) := by rw [hW1e, World.cell?_alloc_lt _ _ _ hlt0]; exact k.1 0 (by simp)
      have d1 : W1.cell? ⟨w.heap.size, 1, none⟩ = some (.int .i64 0) := by rw [hW1e, World.cell?_alloc_lt _ _ _ hlt0]; exact k.1 1 (by simp)
      have d2 : W1.cell? ⟨w.heap.size, 2, none⟩ = some (.int .i64 0) := by rw [hW1e, World.cell?_alloc_lt _ _ _ hlt0]; exact k.1 2 (by simp)
      have z0 : ∀ j, W1.frozen? ⟨w.heap.size, j, none⟩ = false := fun j => by rw [hW1e, World.frozen?_alloc_past _ _ _ hlt0]; exact k.2 j
      have hW1 : Sec (W1.os = W.os ∧ W1.tape = W.tape ∧ W1.output = W.output ∧ W.heap.size ≤ W1.heap.size ∧ ∀ i, i < W.heap.size → W1.heap[i]? = W.heap[i]?) := ⟨by rw [hW1e]; exact ⟨rfl, rfl, rfl, by simp, fun i hi => Below.heap_alloc _ _ _ hi⟩⟩
      have hne : W.heap.size ≠ w.heap.size := by omega
      have v0 := k.1 0 (by simp)
      have v1 := k.1 1 (by simp)
      have v2 := k.1 2 (by simp)
      have vz := k.2
      simp only [List.getElem_toArray, List.getElem_cons_zero, List.getElem_cons_succ] at v0 v1 v2
      clear k
      go_wp2_with fail
      rw [← hW1e]
      clear hW1e
      go_region
      go_wp2_with fail
      obtain ⟨W5, hW5⟩ : ∃ W5, W5 = (((W1.setCell ⟨w.heap.size, 0, none⟩ (.int .i64 f.code)).setCell ⟨w.heap.size, 1, none⟩ (.int .i64 f.lo)).setCell ⟨w.heap.size, 2, none⟩ (.int .i64 f.hi)).drew := ⟨_, rfl⟩
      have q0 : W5.cell? ⟨w.heap.size, 0, none⟩ = some (.int .i64 f.code) := by
        rw [hW5]; show (World.setCell _ _ _).cell? _ = _; exact cell_off (cell_off (cell_on d0) (by decide)) (by decide)
      have q1 : W5.cell? ⟨w.heap.size, 1, none⟩ = some (.int .i64 f.lo) := by
        rw [hW5]; show (World.setCell _ _ _).cell? _ = _; exact cell_off (cell_on (cell_off d1 (by decide))) (by decide)
      have q2 : W5.cell? ⟨w.heap.size, 2, none⟩ = some (.int .i64 f.hi) := by
        rw [hW5]; show (World.setCell _ _ _).cell? _ = _; exact cell_on (cell_off (cell_off d2 (by decide)) (by decide))
      have hfar : Sec (∀ i, i ≠ w.heap.size → W5.heap[i]? = W1.heap[i]?) := ⟨fun i h2 => by
        rw [hW5]; show (World.setCell _ _ _).heap[i]? = _
        rw [Below.heap_setCell _ _ _ _ h2, Below.heap_setCell _ _ _ _ h2, Below.heap_setCell _ _ _ _ h2]⟩
      have hrest : Sec (W5.os = W1.os ∧ W5.tape = W1.tape ∧ W5.output = W1.output ∧ W1.heap.size ≤ W5.heap.size) := ⟨by rw [hW5]; exact ⟨rfl, rfl, rfl, by simp⟩⟩
      rw [← hW5]
      clear hW5 d0 d1 d2 z0
      refine bodyPost_ret (v := .tuple #[.slice none 0 0, .agg #[.int .i64 f.code, .int .i64 f.lo, .int .i64 f.hi]]) (by simp [results, Try.results10, go_sem, q0, q1, q2]) rfl ?_
      obtain ⟨r1, r2, r3, r4⟩ := hrest.out
      obtain ⟨s1, s2, s3, s4, s5⟩ := hW1.out
      rw [← e0.out, hO.out]
      refine ⟨hb.trans ⟨r1.trans s1, r2.trans s2, r3.trans s3, Nat.le_trans s4 r4, fun i hi => (hfar.out i (by omega)).trans (s5 i (by omega))⟩, _, rfl, Given.nil _ _⟩
  | ok u st =>
    obtain ⟨hB, nv, rfl, hG⟩ := hq
    have hb : Below w.heap.size w W := ((Below.refl _ w).alloc (Nat.le_refl _) (BF 0 0 0)).trans (hB.mono (by simp))
    obtain ⟨na, nc, hnv⟩ := hG.shape
    subst hnv
    dsimp only at hO
    by_cases hm : 4096 < st.nodes.length
    · replace hO := Sec.mk (hO.out.trans (if_pos hm))
      have hm' : (4096 : Int) < (st.nodes.length : Int) := by omega
      have k := block_facts (hblk : W.heap[w.heap.size]? = some (BF 0 0 0))
      have hlt0 : w.heap.size < W.heap.size := heap_lt hblk
      obtain ⟨W1, hW1e⟩ : ∃ W1, W1 = W.alloc (BF 3 0 s.size) := ⟨_, rfl⟩
      have l0 : W1.cell? ⟨W.heap.size, 0, none⟩ = some (.int .i64 3) := by rw [hW1e]; simp
      have l1 : W1.cell? ⟨W.heap.size, 1, none⟩ = some (.int .i64 0) := by rw [hW1e]; simp
      have l2 : W1.cell? ⟨W.heap.size, 2, none⟩ = some (.int .i64 s.size) := by rw [hW1e]; simp
      have d0 : W1.cell? ⟨w.heap.size, 0, none⟩ = some (.int .i64 0) := by rw [hW1e, World.cell?_alloc_lt _ _ _ hlt0]; exact k.1 0 (by simp)
      have d1 : W1.cell? ⟨w.heap.size, 1, none⟩ = some (.int .i64 0) := by rw [hW1e, World.cell?_alloc_lt _ _ _ hlt0]; exact k.1 1 (by simp)
      have d2 : W1.cell? ⟨w.heap.size, 2, none⟩ = some (.int .i64 0) := by rw [hW1e, World.cell?_alloc_lt _ _ _ hlt0]; exact k.1 2 (by simp)
      have z0 : ∀ j, W1.frozen? ⟨w.heap.size, j, none⟩ = false := fun j => by rw [hW1e, World.frozen?_alloc_past _ _ _ hlt0]; exact k.2 j
      have hW1 : Sec (W1.os = W.os ∧ W1.tape = W.tape ∧ W1.output = W.output ∧ W.heap.size ≤ W1.heap.size ∧ ∀ i, i < W.heap.size → W1.heap[i]? = W.heap[i]?) := ⟨by rw [hW1e]; exact ⟨rfl, rfl, rfl, by simp, fun i hi => Below.heap_alloc _ _ _ hi⟩⟩
      have hne : W.heap.size ≠ w.heap.size := by omega
      have v0 := k.1 0 (by simp)
      have v1 := k.1 1 (by simp)
      have v2 := k.1 2 (by simp)
      have vz := k.2
      simp only [List.getElem_toArray, List.getElem_cons_zero, List.getElem_cons_succ] at v0 v1 v2
      clear k
      go_wp2_with fail
      rw [← hW1e]
      clear hW1e
      go_region
      go_wp2_with fail
      obtain ⟨W5, hW5⟩ : ∃ W5, W5 = (((W1.setCell ⟨w.heap.size, 0, none⟩ (.int .i64 3)).setCell ⟨w.heap.size, 1, none⟩ (.int .i64 0)).setCell ⟨w.heap.size, 2, none⟩ (.int .i64 s.size)).drew := ⟨_, rfl⟩
      have q0 : W5.cell? ⟨w.heap.size, 0, none⟩ = some (.int .i64 3) := by
        rw [hW5]; show (World.setCell _ _ _).cell? _ = _; exact cell_off (cell_off (cell_on d0) (by decide)) (by decide)
      have q1 : W5.cell? ⟨w.heap.size, 1, none⟩ = some (.int .i64 0) := by
        rw [hW5]; show (World.setCell _ _ _).cell? _ = _; exact cell_off (cell_on (cell_off d1 (by decide))) (by decide)
      have q2 : W5.cell? ⟨w.heap.size, 2, none⟩ = some (.int .i64 s.size) := by
        rw [hW5]; show (World.setCell _ _ _).cell? _ = _; exact cell_on (cell_off (cell_off d2 (by decide)) (by decide))
      have hfar : Sec (∀ i, i ≠ w.heap.size → W5.heap[i]? = W1.heap[i]?) := ⟨fun i h2 => by
        rw [hW5]; show (World.setCell _ _ _).heap[i]? = _
        rw [Below.heap_setCell _ _ _ _ h2, Below.heap_setCell _ _ _ _ h2, Below.heap_setCell _ _ _ _ h2]⟩
      have hrest : Sec (W5.os = W1.os ∧ W5.tape = W1.tape ∧ W5.output = W1.output ∧ W1.heap.size ≤ W5.heap.size) := ⟨by rw [hW5]; exact ⟨rfl, rfl, rfl, by simp⟩⟩
      rw [← hW5]
      clear hW5 d0 d1 d2 z0
      refine bodyPost_ret (v := .tuple #[.slice none 0 0, .agg #[.int .i64 3, .int .i64 0, .int .i64 s.size]]) (by simp [results, Try.results10, go_sem, q0, q1, q2]) rfl ?_
      obtain ⟨r1, r2, r3, r4⟩ := hrest.out
      obtain ⟨s1, s2, s3, s4, s5⟩ := hW1.out
      rw [← e0.out, hO.out]
      refine ⟨hb.trans ⟨r1.trans s1, r2.trans s2, r3.trans s3, Nat.le_trans s4 r4, fun i hi => (hfar.out i (by omega)).trans (s5 i (by omega))⟩, _, rfl, Given.nil _ _⟩
    · replace hO := Sec.mk (hO.out.trans (if_neg hm))
      have hm' : ¬ (4096 : Int) < (st.nodes.length : Int) := by omega
      have k := block_facts (hblk : W.heap[w.heap.size]? = some (BF 0 0 0))
      have hlt0 : w.heap.size < W.heap.size := heap_lt hblk
      have l0 : (W.alloc (.cells #[.int .i64 0, .int .i64 0, .int .i64 0] 25)).cell? ⟨W.heap.size, 0, none⟩ = some (.int .i64 0) := by simp
      have l1 : (W.alloc (.cells #[.int .i64 0, .int .i64 0, .int .i64 0] 25)).cell? ⟨W.heap.size, 1, none⟩ = some (.int .i64 0) := by simp
      have l2 : (W.alloc (.cells #[.int .i64 0, .int .i64 0, .int .i64 0] 25)).cell? ⟨W.heap.size, 2, none⟩ = some (.int .i64 0) := by simp
      have d0 : (W.alloc (.cells #[.int .i64 0, .int .i64 0, .int .i64 0] 25)).cell? ⟨w.heap.size, 0, none⟩ = some (.int .i64 0) := by rw [World.cell?_alloc_lt _ _ _ hlt0]; exact k.1 0 (by simp)
      have d1 : (W.alloc (.cells #[.int .i64 0, .int .i64 0, .int .i64 0] 25)).cell? ⟨w.heap.size, 1, none⟩ = some (.int .i64 0) := by rw [World.cell?_alloc_lt _ _ _ hlt0]; exact k.1 1 (by simp)
      have d2 : (W.alloc (.cells #[.int .i64 0, .int .i64 0, .int .i64 0] 25)).cell? ⟨w.heap.size, 2, none⟩ = some (.int .i64 0) := by rw [World.cell?_alloc_lt _ _ _ hlt0]; exact k.1 2 (by simp)
      have z0 : ∀ j, (W.alloc (.cells #[.int .i64 0, .int .i64 0, .int .i64 0] 25)).frozen? ⟨w.heap.size, j, none⟩ = false := fun j => by rw [World.frozen?_alloc_past _ _ _ hlt0]; exact k.2 j
      have hW1 : Sec ((W.alloc (.cells #[.int .i64 0, .int .i64 0, .int .i64 0] 25)).os = W.os ∧ (W.alloc (.cells #[.int .i64 0, .int .i64 0, .int .i64 0] 25)).tape = W.tape ∧ (W.alloc (.cells #[.int .i64 0, .int .i64 0, .int .i64 0] 25)).output = W.output ∧ W.heap.size ≤ (W.alloc (.cells #[.int .i64 0, .int .i64 0, .int .i64 0] 25)).heap.size ∧ ∀ i, i < W.heap.size → (W.alloc (.cells #[.int .i64 0, .int .i64 0, .int .i64 0] 25)).heap[i]? = W.heap[i]?) := ⟨by exact ⟨rfl, rfl, rfl, by simp, fun i hi => Below.heap_alloc _ _ _ hi⟩⟩
      have hne : W.heap.size ≠ w.heap.size := by omega
      have v0 := k.1 0 (by simp)
      have v1 := k.1 1 (by simp)
      have v2 := k.1 2 (by simp)
      have vz := k.2
      simp only [List.getElem_toArray, List.getElem_cons_zero, List.getElem_cons_succ] at v0 v1 v2
      clear k
      go_wp2_with fail
      obtain ⟨W5, hW5⟩ : ∃ W5, W5 = (((W.setCell ⟨w.heap.size, 0, none⟩ (.int .i64 0)).setCell ⟨w.heap.size, 1, none⟩ (.int .i64 0)).setCell ⟨w.heap.size, 2, none⟩ (.int .i64 0)).alloc (.cells #[.int .i64 0, .int .i64 0, .int .i64 0] 25) := ⟨_, rfl⟩
      have q0 : W5.cell? ⟨w.heap.size, 0, none⟩ = some (.int .i64 0) := by
        rw [hW5, World.cell?_alloc_lt _ _ _ (by simpa using hlt0)]; exact cell_off (cell_off (cell_on v0) (by decide)) (by decide)
      have q1 : W5.cell? ⟨w.heap.size, 1, none⟩ = some (.int .i64 0) := by
        rw [hW5, World.cell?_alloc_lt _ _ _ (by simpa using hlt0)]; exact cell_off (cell_on (cell_off v1 (by decide))) (by decide)
      have q2 : W5.cell? ⟨w.heap.size, 2, none⟩ = some (.int .i64 0) := by
        rw [hW5, World.cell?_alloc_lt _ _ _ (by simpa using hlt0)]; exact cell_on (cell_off (cell_off v2 (by decide)) (by decide))
      have hfar : Sec (∀ i, i < W.heap.size → i ≠ w.heap.size → W5.heap[i]? = W.heap[i]?) := ⟨fun i hi h2 => by
        rw [hW5, Below.heap_alloc _ _ _ (by simpa using hi), Below.heap_setCell _ _ _ _ h2, Below.heap_setCell _ _ _ _ h2, Below.heap_setCell _ _ _ _ h2]⟩
      have hrest : Sec (W5.os = W.os ∧ W5.tape = W.tape ∧ W5.output = W.output ∧ W.heap.size ≤ W5.heap.size) := ⟨by rw [hW5]; exact ⟨rfl, rfl, rfl, by simp⟩⟩
      rw [← hW5]
      clear hW5 d0 d1 d2 z0 v0 v1 v2 vz l0 l1 l2
      refine bodyPost_ret (v := .tuple #[.slice na st.nodes.length nc, .agg #[.int .i64 0, .int .i64 0, .int .i64 0]]) (by simp [results, Try.results10, go_sem, q0, q1, q2]) rfl ?_
      obtain ⟨r1, r2, r3, r4⟩ := hrest.out
      rw [← e0.out, hO.out]
      refine ⟨hb.trans ⟨r1, r2, r3, r4, fun i hi => hfar.out i (by omega) (by omega)⟩, _, rfl, hG.keep (by simp) (fun i h1 h2 => hfar.out i h2 (by simp at h1; omega))⟩
end Go.Proofs.Ytkiijfgoaeiphaa

/- A row of one's own whose elements have several cells: an append, of whatever type. -/
set_option linter.unusedVariables false
set_option linter.unusedSimpArgs false
namespace Go.Proofs.Ytkiijfgoaeiphaa
open Go.RowKit

/-- What an append has left as it was: all but the row. -/
structure Apart (row : Option Nat) (w w' : World) : Prop where
  os : w'.os = w.os
  tape : w'.tape = w.tape
  output : w'.output = w.output
  size : w.heap.size ≤ w'.heap.size
  far : ∀ i, i < w.heap.size → some i ≠ row → w'.heap[i]? = w.heap[i]?
theorem Apart.below {row : Option Nat} {n : Nat} {w W W' : World} (h : Apart row W W') (hb : Below n w W) (hn : n ≤ W.heap.size) (hr : ∀ k, row = some k → n ≤ k) : Below n w W' :=
  hb.trans ⟨h.os, h.tape, h.output, h.size, fun i hi => h.far i (by omega) (fun e => by have := hr i e.symm; omega)⟩
theorem flat_len {α : Type} {enc : α → List Value} {n : Nat} (h : ∀ a, (enc a).length = n) (l : List α) : (l.flatMap enc).length = l.length * n := by
  induction l with
  | nil => simp
  | cons a r ih => rw [List.flatMap_cons, List.length_append, ih, h, List.length_cons, Nat.add_mul]; omega
theorem flat_get {α : Type} {enc : α → List Value} {n : Nat} (h : ∀ a, (enc a).length = n) : ∀ (l : List α) (j : Nat) (a : α), l[j]? = some a → ∀ i u, (enc a)[i]? = some u → (l.flatMap enc)[j * n + i]? = some u
  | [], j, a, hj, _, _, _ => by simp at hj
  | x :: r, 0, a, hj, i, u, hu => by
    have : x = a := by simpa using hj
    subst this
    have hi : i < (enc x).length := (List.getElem?_eq_some_iff.1 hu).1
    rw [List.flatMap_cons, List.getElem?_append_left (by simpa using hi)]
    simpa using hu
  | x :: r, j + 1, a, hj, i, u, hu => by
    have h' : r[j]? = some a := by simpa using hj
    have := flat_get h r j a h' i u hu
    rw [List.flatMap_cons, List.getElem?_append_right (by rw [h, Nat.add_mul]; omega), h, show (j + 1) * n + i - n = j * n + i by rw [Nat.add_mul]; omega]
    exact this
theorem push_flat {ops : Array Oper} {rest : List Oper} {o : Oper} {a : Act} {Q : Exit → Act → World → Prop} {e sl : TypeId} {z0 : Value} {size bytes base n b : Nat} {W : World} {v : Value} {xs : List Value}
    (hU : Try.prog.underlying sl = some (TypeDesc.slice e)) (hinfo : (Try.prog.info? e).map (fun i => (i.zero, i.size, i.bytes)) = some (some z0, size, bytes)) (hz0 : z0.cells.size = size) (hsz : 0 < size) (hby : bytes ≤ 72)
    (hgd : o.guard = none) (s z : Operand) (ho : o.op = .call { callee := .builtin .append, args := #[s, z], argTypes := #[sl, sl] }) (y : Array Value) (hy : y.size = size) (hy1 : ∀ u ∈ y.toList, u.oneCell' = true)
    (hs : a.eval s = v) (hz : a.eval z = .slice (some ⟨b, 0, none⟩) 1 1) (hb : b = W.heap.size) (hown : W.ownsRow base e size v n xs) (hbase : base ≤ W.heap.size) (hl : n ≤ 1000000000)
    (h : ∀ g cap w', w'.ownsRow base e size (.slice (some ⟨g, 0, none⟩) (n + 1) cap) (n + 1) (xs ++ y.toList) → Apart v.ownBlock W w' → v.ownBlock = some g ∨ W.heap.size ≤ g → wpList Try.prog ops Q rest (a.put o.dst (.slice (some ⟨g, 0, none⟩) (n + 1) cap)) w') :
    wpList Try.prog ops Q (o :: rest) a (W.alloc (.cells y e)) := by
  subst hb
  obtain ⟨i0, hi0, h0, h1, h2⟩ := info_parts hinfo
  have hb2 : (n + 1) * bytes ≤ (1000000000 + 1) * 72 := Nat.mul_le_mul (by omega) hby
  refine wpList_append_lies (W.alloc (.cells y e)) hgd s z sl ho base e i0 z0 size bytes hU hi0 h0 h1 h2 hz0 hsz v n xs hs (hown.alloc _) ⟨W.heap.size, 0, none⟩ 1 1 y.toList hz (by simp [hy])
    (World.news_of_block (cs := y) (t := e) (fr := (0, 0)) (heap_alloc_new W _)) hy1 (by omega) (by unfold maxLen; omega) (by omega) (by simp; omega) (W.heap.size + 1) (by simp) ?_
  intro g cap w1 hown1 hgr hat hlt
  refine h g cap w1 hown1 ⟨hgr.os, hgr.tape, hgr.output, by have := hgr.size; simp at this; omega, fun i hi hne => (hgr.block i (by simp; omega) hne).trans (Below.heap_alloc _ _ _ hi)⟩ (hat.imp id (fun h => by omega))
end Go.Proofs.Ytkiijfgoaeiphaa

/- Spans. -/
set_option linter.unusedVariables false
set_option linter.unusedSimpArgs false
namespace Go.Proofs.Ytkiijfgoaeiphaa
open Go.RowKit
attribute [local go_sem ↓] Go.wp_at_zero Go.wp_at_succ

def isSep (s : ByteArray) (t : Tok) : Bool := tokIs s t ⟨#[59, 59]⟩
/-- The declarations' bytes; 'o': the one that is open. -/
def spansL (s : ByteArray) : Option (Nat × Nat) → List Tok → List (Nat × Nat)
  | none, [] => []
  | some r, [] => [r]
  | o, t :: ts => if isSep s t then o.toList ++ spansL s none ts else spansL s (some ((match o with | some r => r.1 | none => t.lo), t.hi)) ts
def spans (s : ByteArray) : List (Nat × Nat) := spansL s none (lex s)
def spanCells (r : Nat × Nat) : List Value := [.int .i64 r.1, .int .i64 r.2]
def PostSpans (w : World) (l : List (Nat × Nat)) (e : Ending) (w' : World) : Prop :=
  ∃ v, e = .returned v ∧ w'.ownsRow w.heap.size 61 2 v l.length (l.flatMap spanCells) ∧ Below w.heap.size w w'
theorem infoSpan : (Try.prog.info? 61).map (fun i => (i.zero, i.size, i.bytes)) = some (some (.agg #[.int .i64 0, .int .i64 0]), 2, 16) := by kernel_rfl
theorem own_shape {w : World} {base : Nat} {e : TypeId} {size : Nat} {v : Value} {n : Nat} {xs : List Value} (h : w.ownsRow base e size v n xs) : ∃ a c, v = .slice a n c := by
  rcases h.2 with ⟨rfl, h0⟩ | ⟨g, cap, cur, rfl, _⟩
  · exact ⟨none, 0, by rw [h0]⟩
  · exact ⟨_, cap, rfl⟩

/-- The variable that holds the open row. -/
structure SpanBox (W : World) (b : Nat) (r0 r1 : Int) : Prop where
  c0 : W.cell? ⟨b, 0, none⟩ = some (.int .i64 r0)
  c1 : W.cell? ⟨b, 1, none⟩ = some (.int .i64 r1)
  fz : ∀ o, W.frozen? ⟨b, o, none⟩ = false
theorem SpanBox.keep {W W' : World} {b : Nat} {r0 r1 : Int} (h : SpanBox W b r0 r1) (hk : W'.heap[b]? = W.heap[b]?) : SpanBox W' b r0 r1 :=
  ⟨(World.cell?_of_block hk).trans h.c0, (World.cell?_of_block hk).trans h.c1, fun o => (World.frozen?_of_block hk).trans (h.fz o)⟩
theorem SpanBox.set0 {W : World} {b : Nat} {r0 r1 : Int} (h : SpanBox W b r0 r1) (x : Int) : SpanBox (W.setCell ⟨b, 0, none⟩ (.int .i64 x)) b x r1 := ⟨cell_on h.c0, cell_off h.c1 (by decide), fun o => by simp [h.fz]⟩
theorem SpanBox.set1 {W : World} {b : Nat} {r0 r1 : Int} (h : SpanBox W b r0 r1) (x : Int) : SpanBox (W.setCell ⟨b, 1, none⟩ (.int .i64 x)) b r0 x := ⟨cell_off h.c0 (by decide), cell_on h.c1, fun o => by simp [h.fz]⟩
/-- Where the walk over the tokens stands: the world, the row that is done, the open one's variable. -/
structure SpanAt (w W : World) (v : Value) (l : List (Nat × Nat)) (r0 r1 : Int) : Prop where
  own : W.ownsRow (w.heap.size + 1) 61 2 v l.length (l.flatMap spanCells)
  below : Below w.heap.size w W
  big : w.heap.size < W.heap.size
  box : SpanBox W w.heap.size r0 r1
theorem SpanAt.later {w W W' : World} {v : Value} {l : List (Nat × Nat)} {r0 r1 : Int} (h : SpanAt w W v l r0 r1) (hb : Below W.heap.size W W') : SpanAt w W' v l r0 r1 :=
  ⟨ownsRow_of_heap h.own fun k hk => hb.block k (h.own.lt k hk).2, h.below.trans (hb.mono (by have := h.big; omega)), by have := h.big; have := hb.size; omega, h.box.keep (hb.block _ h.big)⟩
theorem SpanAt.set0 {w W : World} {v : Value} {l : List (Nat × Nat)} {r0 r1 : Int} (h : SpanAt w W v l r0 r1) (x : Int) : SpanAt w (W.setCell ⟨w.heap.size, 0, none⟩ (.int .i64 x)) v l x r1 :=
  ⟨ownsRow_of_heap h.own fun k hk => Below.heap_setCell _ _ _ _ (by have := (h.own.lt k hk).1; show k ≠ w.heap.size; omega), h.below.trans ⟨rfl, rfl, rfl, by simp, fun i hi => Below.heap_setCell _ _ _ _ (by show i ≠ w.heap.size; omega)⟩, by simpa using h.big, h.box.set0 x⟩
theorem SpanAt.set1 {w W : World} {v : Value} {l : List (Nat × Nat)} {r0 r1 : Int} (h : SpanAt w W v l r0 r1) (x : Int) : SpanAt w (W.setCell ⟨w.heap.size, 1, none⟩ (.int .i64 x)) v l r0 x :=
  ⟨ownsRow_of_heap h.own fun k hk => Below.heap_setCell _ _ _ _ (by have := (h.own.lt k hk).1; show k ≠ w.heap.size; omega), h.below.trans ⟨rfl, rfl, rfl, by simp, fun i hi => Below.heap_setCell _ _ _ _ (by show i ≠ w.heap.size; omega)⟩, by simpa using h.big, h.box.set1 x⟩
theorem SpanAt.push {w W W' : World} {v v' : Value} {l : List (Nat × Nat)} {r0 r1 : Int} (h : SpanAt w W v l r0 r1) (r : Nat × Nat) (ho : W'.ownsRow (w.heap.size + 1) 61 2 v' (l.length + 1) (l.flatMap spanCells ++ spanCells r)) (ha : Apart v.ownBlock W W') : SpanAt w W' v' (l ++ [r]) r0 r1 :=
  ⟨by simpa using ho, ha.below h.below (by have := h.big; omega) (fun k hk => by have := (h.own.lt k hk).1; omega), by have := h.big; have := ha.size; omega, h.box.keep (ha.far _ h.big (fun e => by have := (h.own.lt _ e.symm).1; omega))⟩

set_option maxRecDepth 100000 in
set_option maxHeartbeats 4000000 in
theorem spans_any (s : ByteArray) (hs : s.size ≤ maxLen) (toks : List Tok) (v : Value) (w : World) (hT : ToksAt w (fun b => b < w.heap.size) v toks) (hn : toks.length ≤ 100000000) : Calls Try.prog 14 #[.string s, v] w (PostSpans w (spansL s none toks)) := by
  generalize hPost : PostSpans w (spansL s none toks) = Post
  have e0 := Sec.mk hPost
  clear hPost
  obtain ⟨ta, tc, rfl, _, hT2⟩ := hT
  have hT2' := Sec.mk hT2
  clear hT2
  go_enter Try.func14, Try.ntmps14
  go_wp2_with fail
  go_loopg [5, 7, 9, 12] toks.length (fun n rv ov _ iv wr => ∃ (k : Nat) (o : Option (Nat × Nat)) (l : List (Nat × Nat)) (r0 r1 : Int), iv = .int .i64 k ∧ ov = .bool o.isSome ∧ Sec (k + n = toks.length) ∧ Sec (l.length ≤ k) ∧
    SpanAt w wr rv l r0 r1 ∧ Sec (∀ r, o = some r → r0 = r.1 ∧ r1 = r.2) ∧ Sec (spansL s none toks = l ++ spansL s o (toks.drop k)))
  case atStart =>
    exact ⟨0, none, [], 0, 0, rfl, rfl, ⟨by omega⟩, ⟨by simp⟩, ⟨World.ownsRow_nil _ _ _ _, (Below.refl _ _).alloc (Nat.le_refl _) _, by simp, by simp, by simp, fun o => by unfold World.frozen?; dsimp only; rw [heap_alloc_new]; simp⟩, ⟨fun r h => by cases h⟩, ⟨rfl⟩⟩
  case round =>
    obtain ⟨k, o, l, r0, r1, rfl, rfl, hk, hl, hA, ho, hE⟩ := hrel
    obtain ⟨sa, sc, hv⟩ := own_shape hA.own
    subst hv
    by_cases hlt : k < toks.length
    · have hki : (k : Int) < (toks.length : Int) := by omega
      have hk0 : (0 : Int) ≤ (k : Int) := by omega
      cases gk with
      | zero => have := hk.out; omega
      | succ n =>
        obtain ⟨tb, to_, rfl, htb, hc⟩ := hT2'.out (by intro e; rw [e] at hlt; simp at hlt)
        have hg := List.getElem?_eq_getElem hlt
        have hdrop : toks.drop k = toks[k] :: toks.drop (k + 1) := List.drop_eq_getElem_cons hlt
        generalize toks[k] = t at hg hdrop
        have hcell : ∀ i u, (tokCells t)[i]? = some u → wr.cell? ⟨tb, to_ + k * 3 + i, none⟩ = some u := fun i u hu => (World.cell?_of_block (hA.below.block _ htb)).trans (hc k t hg i u hu)
        have t0 := hcell 0 _ rfl
        have t1 := hcell 1 _ rfl
        have t2 := hcell 2 _ rfl
        rw [hdrop] at hE
        clear hcell hc hg hdrop
        obtain ⟨tk, tl, th⟩ := t
        simp only [Nat.add_zero] at t0
        have hlen : l.length ≤ 1000000000 := by have := hl.out; omega
        go_wp2_with fail
        refine (is_any s tk tl th ⟨#[59, 59]⟩ _ hs).mono ?_
        rintro e W1 ⟨rfl, hbel⟩
        have hA1 := hA.later (((Below.refl _ wr).alloc (Nat.le_refl _) (.cells #[.int .i64 tk, .int .i64 tl, .int .i64 th] 31)).trans (hbel.mono (by simp)))
        have tl1 : W1.cell? ⟨wr.heap.size, 1, none⟩ = some (.int .i64 tl) := (World.cell?_of_block (hbel.block _ (by simp))).trans (by simp)
        have th1 : W1.cell? ⟨wr.heap.size, 2, none⟩ = some (.int .i64 th) := (World.cell?_of_block (hbel.block _ (by simp))).trans (by simp)
        have hneb : wr.heap.size ≠ w.heap.size := by have := hA.big; omega
        clear hbel t0 t1 t2 hA
        have b0 := hA1.box.c0
        have b1 := hA1.box.c1
        have bz := hA1.box.fz
        cases hsep : tokIs s ⟨tk, tl, th⟩ ⟨#[59, 59]⟩ with
        | true =>
          cases o with
          | some r =>
            obtain ⟨rfl, rfl⟩ := ho.out r rfl
            obtain ⟨ra, rb⟩ := r
            replace hE : Sec (spansL s none toks = (l ++ [(ra, rb)]) ++ spansL s none (toks.drop (k + 1))) := ⟨by rw [hE.out, spansL]; simp only [isSep, hsep, if_true]; simp⟩
            go_wp2_with (at_builtin; refine push_flat Try.underlying38 infoSpan rfl (by omega) (by omega) rfl _ _ rfl #[.int .i64 ra, .int .i64 rb] rfl (by simp [Value.oneCell']) (by rfl) (by rfl) (by simp) hA1.own (by have := hA1.big; omega) hlen ?_; intro g cap W2 hown2 hap2 _)
            have hA2 := hA1.push (ra, rb) hown2 hap2
            go_roundg n
            case measure => omega
            case rel => exact ⟨k + 1, none, _, _, _, by rw [show ((k + 1 : Nat) : Int) = (k : Int) + 1 from by omega], rfl, ⟨by have := hk.out; omega⟩, ⟨by have := hl.out; simp; omega⟩, by simpa using hA2, ⟨fun r h => by cases h⟩, hE⟩
          | none =>
            replace hE : Sec (spansL s none toks = l ++ spansL s none (toks.drop (k + 1))) := ⟨by rw [hE.out, spansL]; simp only [isSep, hsep, if_true]; simp⟩
            go_wp2_with fail
            go_roundg n
            case measure => omega
            case rel => exact ⟨k + 1, none, _, _, _, by rw [show ((k + 1 : Nat) : Int) = (k : Int) + 1 from by omega], rfl, ⟨by have := hk.out; omega⟩, ⟨by have := hl.out; omega⟩, hA1, ⟨fun r h => by cases h⟩, hE⟩
        | false =>
          cases o with
          | some r =>
            obtain ⟨rfl, rfl⟩ := ho.out r rfl
            obtain ⟨ra, rb⟩ := r
            replace hE : Sec (spansL s none toks = l ++ spansL s (some (ra, th)) (toks.drop (k + 1))) := ⟨by rw [hE.out, spansL]; simp only [isSep, hsep, Bool.false_eq_true, if_false]⟩
            go_wp2_with fail
            go_roundg n
            case measure => omega
            case rel => exact ⟨k + 1, some (ra, th), _, _, _, by rw [show ((k + 1 : Nat) : Int) = (k : Int) + 1 from by omega], rfl, ⟨by have := hk.out; omega⟩, ⟨by have := hl.out; omega⟩, hA1.set1 th, ⟨fun r h => by cases h; exact ⟨rfl, rfl⟩⟩, hE⟩
          | none =>
            replace hE : Sec (spansL s none toks = l ++ spansL s (some (tl, th)) (toks.drop (k + 1))) := ⟨by rw [hE.out, spansL]; simp only [isSep, hsep, Bool.false_eq_true, if_false]⟩
            go_wp2_with fail
            go_roundg n
            case measure => omega
            case rel => exact ⟨k + 1, some (tl, th), _, _, _, by rw [show ((k + 1 : Nat) : Int) = (k : Int) + 1 from by omega], rfl, ⟨by have := hk.out; omega⟩, ⟨by have := hl.out; omega⟩, (hA1.set0 tl).set1 th, ⟨fun r h => by cases h; exact ⟨rfl, rfl⟩⟩, hE⟩
    · have hki : ¬ (k : Int) < (toks.length : Int) := by omega
      have hlen : l.length ≤ 1000000000 := by have := hl.out; have := hk.out; omega
      rw [List.drop_eq_nil_of_le (by omega)] at hE
      have b0 := hA.box.c0
      have b1 := hA.box.c1
      cases o with
      | none =>
        go_wp2_with fail
        rw [← e0.out, hE.out]
        exact ⟨_, rfl, by simpa [spansL] using own_mono hA.own (Nat.le_succ _), hA.below⟩
      | some r =>
        obtain ⟨rfl, rfl⟩ := ho.out r rfl
        obtain ⟨ra, rb⟩ := r
        go_wp2_with (at_builtin; refine push_flat Try.underlying38 infoSpan rfl (by omega) (by omega) rfl _ _ rfl #[.int .i64 ra, .int .i64 rb] rfl (by simp [Value.oneCell']) (by rfl) (by rfl) (by simp) hA.own (by have := hA.big; omega) hlen ?_; intro g cap W2 hown2 hap2 _)
        have hA2 := hA.push (ra, rb) hown2 hap2
        rw [← e0.out, hE.out]
        exact ⟨_, rfl, by simpa [spansL] using own_mono hA2.own (Nat.le_succ _), hA2.below⟩
end Go.Proofs.Ytkiijfgoaeiphaa

/- Parse. -/
set_option linter.unusedVariables false
set_option linter.unusedSimpArgs false
namespace Go.Proofs.Ytkiijfgoaeiphaa
open Go.RowKit
attribute [local go_sem ↓] Go.wp_at_zero Go.wp_at_succ

/-- A declaration. -/
structure Dc where
  lo : Int
  hi : Int
  nodes : List Nd
  flt : Flt
def declCells (p : Dc × Value) : List Value := [.int .i64 p.1.lo, .int .i64 p.1.hi, p.2, .int .i64 p.1.flt.code, .int .i64 p.1.flt.lo, .int .i64 p.1.flt.hi]
/-- A row of declarations that was made behind w; its nodes too. -/
structure DeclsAt (w W : World) (v : Value) (l : List (Dc × Value)) : Prop where
  own : W.ownsRow w.heap.size 37 6 v l.length (l.flatMap declCells)
  given : ∀ p ∈ l, Given w W p.2 p.1.nodes
  below : Below w.heap.size w W
theorem ToksAt.keepBl {w : World} {Bl Bl' : Nat → Prop} {v : Value} {ts : List Tok} (h : ToksAt w Bl v ts) (hk : ∀ b, Bl b → Bl' b) : ToksAt w Bl' v ts := by
  obtain ⟨a, c, h1, h2, h3⟩ := h
  refine ⟨a, c, h1, h2, fun hne => ?_⟩
  obtain ⟨b, o, e, hb, hc⟩ := h3 hne
  exact ⟨b, o, e, hk b hb, hc⟩
theorem infoDecl : (Try.prog.info? 37).map (fun i => (i.zero, i.size, i.bytes)) = some (some (.agg #[.int .i64 0, .int .i64 0, .slice none 0 0, .int .i64 0, .int .i64 0, .int .i64 0]), 6, 64) := by kernel_rfl
theorem own_elem {W : World} {base : Nat} {e : TypeId} {size : Nat} {v : Value} {n : Nat} {xs : List Value} (h : W.ownsRow base e size v n xs) {k : Nat} (hk : v.ownBlock = some k) : ∃ cur, W.heap[k]? = some (.cells cur e (0, 0)) := by
  rcases h.2 with ⟨rfl, h0⟩ | ⟨g, cap, cur, rfl, _, hh, _⟩
  · simp [Value.ownBlock] at hk
  · have : g = k := by simpa [Value.ownBlock] using hk
    subst this
    exact ⟨cur, hh⟩
/-- What is given does not lie in a block of another type. -/
theorem Given.apart {w W W' : World} {nv : Value} {ns : List Nd} (h : Given w W nv ns) (hk : ∀ (i : Nat) (cur : Array Value) (e : TypeId) (fr : Nat × Nat), W.heap[i]? = some (Obj.cells cur e fr) → e = 53 ∨ e = 3 → W'.heap[i]? = W.heap[i]?) : Given w W' nv ns := by
  obtain ⟨cs, h1, h2⟩ := h
  refine ⟨cs, ownsRow_of_heap h1 fun k hk' => ?_, h2.keep fun b cur fr hb hh => ⟨hb, hk b cur _ fr hh (.inr rfl)⟩⟩
  obtain ⟨cur, hh⟩ := own_elem h1 hk'
  exact hk k cur _ _ hh (.inl rfl)
theorem DeclsAt.nil (w : World) : DeclsAt w w (.slice none 0 0) [] := ⟨World.ownsRow_nil _ _ _ _, fun p hp => by simp at hp, Below.refl _ _⟩
theorem DeclsAt.later {w W W' : World} {v : Value} {l : List (Dc × Value)} (h : DeclsAt w W v l) (hb : Below W.heap.size W W') : DeclsAt w W' v l :=
  ⟨ownsRow_of_heap h.own fun k hk => hb.block k (h.own.lt k hk).2, fun p hp => (h.given p hp).keep (Nat.le_refl _) fun i _ hi => hb.block i hi, h.below.trans (hb.mono h.below.size)⟩
theorem DeclsAt.push {w W W' : World} {v v' : Value} {l : List (Dc × Value)} (h : DeclsAt w W v l) (p : Dc × Value) (hg : Given w W p.2 p.1.nodes) (ho : W'.ownsRow w.heap.size 37 6 v' (l.length + 1) (l.flatMap declCells ++ declCells p)) (ha : Apart v.ownBlock W W') : DeclsAt w W' v' (l ++ [p]) := by
  have hk : ∀ q : Dc × Value, Given w W q.2 q.1.nodes → Given w W' q.2 q.1.nodes := fun q hq => hq.apart fun i cur e fr hh he => ha.far i (heap_lt hh) fun e' => by
    obtain ⟨cur', hh'⟩ := own_elem h.own e'.symm
    rw [hh] at hh'
    cases hh'
    rcases he with he | he <;> exact absurd he (by decide)
  refine ⟨by simpa using ho, fun q hq => ?_, ha.below h.below h.below.size (fun k hk => (h.own.lt k hk).1)⟩
  rcases List.mem_append.1 hq with hq | hq
  · exact hk q (h.given q hq)
  · have : q = p := by simpa using hq
    exact this ▸ hk p hg
theorem DeclsAt.base {w0 w W : World} {v : Value} {l : List (Dc × Value)} (h : DeclsAt w W v l) (hb : Below w0.heap.size w0 w) : DeclsAt w0 W v l :=
  ⟨own_mono h.own hb.size, fun p hp => (h.given p hp).keep hb.size fun i _ _ => rfl, hb.trans (h.below.mono hb.size)⟩

def subtext (s : ByteArray) (r : Nat × Nat) : ByteArray := s.extract r.1 r.2
def declOf (s : ByteArray) (r : Nat × Nat) : Dc := ⟨r.1, r.2, (one (subtext s r)).1, (one (subtext s r)).2⟩
def parse (s : ByteArray) : List Dc := (spans s).map (declOf s)
/-- How a call ends that answers declarations. -/
def PostDecls (w : World) (ds : List Dc) (e : Ending) (w' : World) : Prop := ∃ v l, e = .returned v ∧ l.map (·.1) = ds ∧ DeclsAt w w' v l

theorem spansL_len (s : ByteArray) : ∀ (ts : List Tok) (o : Option (Nat × Nat)), (spansL s o ts).length ≤ ts.length + o.toList.length
  | [], none => by simp [spansL]
  | [], some r => by simp [spansL]
  | t :: ts, none => by
    rw [spansL]
    split
    · have := spansL_len s ts none
      simp at this ⊢; omega
    · have := spansL_len s ts (some (t.lo, t.hi))
      simp at this ⊢; omega
  | t :: ts, some r => by
    rw [spansL]
    split
    · have := spansL_len s ts none
      simp at this ⊢; omega
    · have := spansL_len s ts (some (r.1, t.hi))
      simp at this ⊢; omega
/-- The spans lie within the text. -/
def SpansOk (s : ByteArray) : Prop := ∀ r ∈ spans s, r.1 ≤ r.2 ∧ r.2 ≤ s.size

set_option maxRecDepth 100000 in
set_option maxHeartbeats 4000000 in
theorem parse_any (s : ByteArray) (hs : s.size ≤ 100000000) (hok : SpansOk s) (hall : ∀ r ∈ spans s, whole ⟨subtext s r, lex (subtext s r)⟩ ⟨0, []⟩ ≠ .stuck) (w : World) : Calls Try.prog 12 #[.string s] w (PostDecls w (parse s)) := by
  have hs1 : s.size ≤ most := by unfold most; omega
  have hs2 : s.size ≤ maxLen := by unfold maxLen; omega
  have hll := lex_len s
  have hsl : (spans s).length ≤ s.size := Nat.le_trans (by have := spansL_len s (lex s) none; simpa [spans] using this) hll
  generalize hPost : PostDecls w (parse s) = Post
  have e0 := Sec.mk hPost
  have hok' := Sec.mk hok
  have hall' := Sec.mk hall
  clear hPost hok hall
  go_enter Try.func12, Try.ntmps12
  go_wp2_with fail
  refine (lex_any s hs1 _).mono ?_
  rintro e W1 ⟨v, rfl, hT⟩
  obtain ⟨ta, tc, hv⟩ := hT.shape
  subst hv
  go_wp2_with fail
  refine (spans_any s hs2 (lex s) _ W1 ((hT.reads (by omega)).keepBl fun b hb => hb.2) (by omega)).mono ?_
  rintro e W2 ⟨v2, rfl, hS, hB2⟩
  have hB : Below w.heap.size w W2 := hT.below.trans (hB2.mono hT.below.size)
  obtain ⟨sa, sc, hv⟩ := own_shape hS
  subst hv
  have hS' := Sec.mk hS
  have hsp : Sec (spansL s none (lex s) = spans s) := ⟨rfl⟩
  rw [hsp.out] at hS' ⊢
  clear hS hT hB2
  go_wp2_with fail
  go_loopg [3, 5, 6, 7, 13] (spans s).length (fun n rv _ _ _ iv wr => ∃ (k : Nat) (l : List (Dc × Value)), iv = .int .i64 k ∧ Sec (k + n = (spans s).length) ∧ DeclsAt W2 wr rv l ∧ Sec (l.map (·.1) = ((spans s).take k).map (declOf s)) ∧ Sec (l.length = k))
  case atStart => exact ⟨0, [], rfl, ⟨by omega⟩, DeclsAt.nil _, ⟨rfl⟩, ⟨rfl⟩⟩
  case round =>
    obtain ⟨k, l, rfl, hk, hD, hE, hl⟩ := hrel
    obtain ⟨da, dc, hv⟩ := own_shape hD.own
    subst hv
    by_cases hlt : k < (spans s).length
    · have hki : (k : Int) < ((spans s).length : Int) := by omega
      have hk0 : (0 : Int) ≤ (k : Int) := by omega
      cases gk with
      | zero => have := hk.out; omega
      | succ n =>
        have hg := List.getElem?_eq_getElem hlt
        have hmem : (spans s)[k] ∈ spans s := List.getElem_mem hlt
        have hb1 := (hok'.out _ hmem).1
        have hb2 := (hok'.out _ hmem).2
        have hns := Sec.mk (hall'.out _ hmem)
        have htk : Sec ((spans s).take (k + 1) = (spans s).take k ++ [(spans s)[k]]) := ⟨by rw [List.take_add_one, hg]; rfl⟩
        have hcell : ∀ i u, (spanCells (spans s)[k])[i]? = some u → ∃ g, sa = some ⟨g, 0, none⟩ ∧ wr.cell? ⟨g, k * 2 + i, none⟩ = some u := by
          intro i u hu
          rcases hS'.out.2 with ⟨h, h0⟩ | ⟨g, cap, cur, h, _⟩
          · rw [h0] at hlt; omega
          · injection h with h1 h2 h3
            subst h1
            refine ⟨g, rfl, ?_⟩
            have hc := hS'.out.cells (g := g) rfl (k * 2 + i) u (flat_get (enc := spanCells) (n := 2) (fun _ => rfl) _ k _ hg i u hu)
            rw [show (⟨g, 0, none⟩ : Addr).add (k * 2 + i) = ⟨g, k * 2 + i, none⟩ by simp only [Addr.add, Nat.zero_add]; split <;> simp_all] at hc
            exact (World.cell?_of_block (hD.below.block _ (hS'.out.lt g rfl).2)).trans hc
        obtain ⟨g, rfl, t0⟩ := hcell 0 _ rfl
        obtain ⟨g', hg', t1⟩ := hcell 1 _ rfl
        injection hg' with hg'
        injection hg' with hg'
        subst hg'
        clear hcell hg hmem
        generalize (spans s)[k] = r at *
        obtain ⟨ra, rb⟩ := r
        simp only [Nat.add_zero] at t0
        have hlen : l.length ≤ 1000000000 := by have := hl.out; have := hk.out; omega
        have hra : (ra : Int) ≤ (rb : Int) := by simp only at hb1; omega
        have hrb : (rb : Int) ≤ (s.size : Int) := by simp only at hb2; omega
        simp only at hb1 hb2
        have hsz : (s.extract ra rb).size ≤ most := by rw [ByteArray.size_extract]; omega
        go_wp2_with fail
        refine (one_any (s.extract ra rb) hsz _ hns.out).mono ?_
        rintro e W3 ⟨hb3, nv, rfl, hG⟩
        have hdo : Sec (declOf s (ra, rb) = ⟨ra, rb, (one (s.extract ra rb)).1, (one (s.extract ra rb)).2⟩) := ⟨rfl⟩
        generalize one (s.extract ra rb) = on at hG hdo
        obtain ⟨ns, fl⟩ := on
        dsimp only at hG hdo
        obtain ⟨na, nc, hv⟩ := hG.shape
        subst hv
        have p0 : W3.cell? ⟨wr.heap.size, 0, none⟩ = some (.int .i64 ra) := (World.cell?_of_block (hb3.block _ (by simp))).trans (by simp)
        have p1 : W3.cell? ⟨wr.heap.size, 1, none⟩ = some (.int .i64 rb) := (World.cell?_of_block (hb3.block _ (by simp))).trans (by simp)
        have hD3 := hD.later (((Below.refl _ wr).alloc (Nat.le_refl _) (.cells #[.int .i64 ra, .int .i64 rb] 61)).trans (hb3.mono (by simp)))
        have hG3 : Given W2 W3 _ ns := hG.keep (by have := hD.below.size; simp; omega) (fun i _ _ => rfl)
        have hD4 := hD3.later ((Below.refl _ W3).alloc (Nat.le_refl _) (BF fl.code fl.lo fl.hi))
        have hG4 : Given W2 (W3.alloc (BF fl.code fl.lo fl.hi)) _ ns := hG3.keep (Nat.le_refl _) (fun i _ hi => Below.heap_alloc _ _ _ hi)
        have hwl : wr.heap.size < W3.heap.size := by have := hb3.size; simp at this; omega
        clear hb3 hG hG3 hD3 hD t0 t1
        go_wp2_with (at_builtin; refine push_flat Try.underlying33 infoDecl rfl (by omega) (by omega) rfl _ _ rfl #[.int .i64 ra, .int .i64 rb, .slice na ns.length nc, .int .i64 fl.code, .int .i64 fl.lo, .int .i64 fl.hi] rfl (by simp [Value.oneCell']) (by rfl) (by rfl) (by simp) hD4.own (hD4.below.size) hlen ?_; intro g2 cap W5 hown5 hap5 _)
        have hD5 := hD4.push (⟨ra, rb, ns, fl⟩, _) hG4 hown5 hap5
        go_roundg n
        case measure => omega
        case rel => exact ⟨k + 1, _, by rw [show ((k + 1 : Nat) : Int) = (k : Int) + 1 from by omega], ⟨by have := hk.out; omega⟩, by simpa using hD5, ⟨by rw [List.map_append, hE.out, htk.out, List.map_append, List.map_cons, List.map_nil, List.map_cons, List.map_nil, hdo.out]⟩, ⟨by have := hl.out; simp; omega⟩⟩
    · have hki : ¬ (k : Int) < ((spans s).length : Int) := by omega
      go_wp2_with fail
      rw [← e0.out]
      refine ⟨_, l, rfl, ?_, hD.base hB⟩
      rw [hE.out, List.take_of_length_le (by omega)]; rfl
end Go.Proofs.Ytkiijfgoaeiphaa
