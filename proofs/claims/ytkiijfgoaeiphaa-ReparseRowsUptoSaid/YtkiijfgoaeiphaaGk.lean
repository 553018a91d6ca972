/- Lists of numbers, of nodes, of declarations that are read, wherever they lie. -/
import Derived.Test.YtkiijfgoaeiphaaGf
import Derived.Deep.RegionHeld3
import Derived.Test.YtkiijfgoaeiphaaGi
import Derived.Test.YtkiijfgoaeiphaaRows
import Derived.JoinedCond
import Derived.ChangeMaps5
import Derived.SliceStrings
import Derived.Carry
set_option linter.unusedVariables false
set_option linter.unusedSimpArgs false
namespace Go.Proofs.Ytkiijfgoaeiphaa
open Go.RowKit

def KidsR (W : World) (v : Value) (xs : List Int) : Prop :=
  ∃ ad c, v = .slice ad xs.length c ∧ xs.length ≤ maxLen ∧ (xs ≠ [] → ∃ b o, ad = some ⟨b, o, none⟩ ∧ ∀ j x, xs[j]? = some x → W.cell? ⟨b, o + j, none⟩ = some (.int .i64 x))
def NodesR (W : World) (v : Value) (ns : List Nd) : Prop :=
  ∃ ad c, v = .slice ad ns.length c ∧ ns.length ≤ maxLen ∧ (ns ≠ [] → ∃ b o, ad = some ⟨b, o, none⟩ ∧ ∀ j n, ns[j]? = some n →
    W.cell? ⟨b, o + j * 6, none⟩ = some (.int .i64 n.kind) ∧ W.cell? ⟨b, o + j * 6 + 1, none⟩ = some (.int .i64 n.lo) ∧ W.cell? ⟨b, o + j * 6 + 2, none⟩ = some (.int .i64 n.hi) ∧ W.cell? ⟨b, o + j * 6 + 3, none⟩ = some (.int .i64 n.num) ∧ W.cell? ⟨b, o + j * 6 + 4, none⟩ = some (.string n.name) ∧ ∃ kv, W.cell? ⟨b, o + j * 6 + 5, none⟩ = some kv ∧ KidsR W kv n.kids)
def DeclsR (W : World) (v : Value) (l : List Dc) : Prop :=
  ∃ ad c, v = .slice ad l.length c ∧ l.length ≤ maxLen ∧ (l ≠ [] → ∃ b o, ad = some ⟨b, o, none⟩ ∧ ∀ j d, l[j]? = some d →
    W.cell? ⟨b, o + j * 6, none⟩ = some (.int .i64 d.lo) ∧ W.cell? ⟨b, o + j * 6 + 1, none⟩ = some (.int .i64 d.hi) ∧ (∃ nv, W.cell? ⟨b, o + j * 6 + 2, none⟩ = some nv ∧ NodesR W nv d.nodes) ∧ W.cell? ⟨b, o + j * 6 + 3, none⟩ = some (.int .i64 d.flt.code) ∧ W.cell? ⟨b, o + j * 6 + 4, none⟩ = some (.int .i64 d.flt.lo) ∧ W.cell? ⟨b, o + j * 6 + 5, none⟩ = some (.int .i64 d.flt.hi))

/-- All cells that there are stay. -/
def Stays (W W' : World) : Prop := ∀ a v, W.cell? a = some v → W'.cell? a = some v
theorem below_stays {W W' : World} (h : Below W.heap.size W W') : Stays W W' := fun a v hv => (World.cell?_of_block (h.block _ (World.block_lt_of_cell? W _ hv))).trans hv
theorem KidsR.stay {W W' : World} {v : Value} {xs : List Int} (h : KidsR W v xs) (hs : Stays W W') : KidsR W' v xs := by
  obtain ⟨ad, c, e, h1, h2⟩ := h
  refine ⟨ad, c, e, h1, fun hne => ?_⟩
  obtain ⟨b, o, e1, hc⟩ := h2 hne
  exact ⟨b, o, e1, fun j x hj => hs _ _ (hc j x hj)⟩
theorem NodesR.stay {W W' : World} {v : Value} {ns : List Nd} (h : NodesR W v ns) (hs : Stays W W') : NodesR W' v ns := by
  obtain ⟨ad, c, e, h1, h2⟩ := h
  refine ⟨ad, c, e, h1, fun hne => ?_⟩
  obtain ⟨b, o, e1, hc⟩ := h2 hne
  refine ⟨b, o, e1, fun j n hj => ?_⟩
  obtain ⟨a0, a1, a2, a3, a4, kv, a5, a6⟩ := hc j n hj
  exact ⟨hs _ _ a0, hs _ _ a1, hs _ _ a2, hs _ _ a3, hs _ _ a4, kv, hs _ _ a5, a6.stay hs⟩
theorem DeclsR.stay {W W' : World} {v : Value} {l : List Dc} (h : DeclsR W v l) (hs : Stays W W') : DeclsR W' v l := by
  obtain ⟨ad, c, e, h1, h2⟩ := h
  refine ⟨ad, c, e, h1, fun hne => ?_⟩
  obtain ⟨b, o, e1, hc⟩ := h2 hne
  refine ⟨b, o, e1, fun j n hj => ?_⟩
  obtain ⟨a0, a1, ⟨nv, a2, a6⟩, a3, a4, a5⟩ := hc j n hj
  exact ⟨hs _ _ a0, hs _ _ a1, ⟨nv, hs _ _ a2, a6.stay hs⟩, hs _ _ a3, hs _ _ a4, hs _ _ a5⟩
theorem KidsIn.reads {W : World} {L : Nat → Prop} {v : Value} {xs : List Int} (h : KidsIn W L v xs) : KidsR W v xs := by
  obtain ⟨ad, c, e, h1, h2, h3⟩ := h
  refine ⟨ad, c, e, Nat.le_trans h1 h2, fun hne => ?_⟩
  obtain ⟨b, o, cur, fr, e1, _, hb, hc⟩ := h3 hne
  exact ⟨b, o, e1, fun j x hj => by rw [cell_of_row _ _ _ _ _ _ hb]; exact hc j x hj⟩
theorem own_len {W : World} {base : Nat} {e : TypeId} {size : Nat} {v : Value} {n : Nat} {xs : List Value} (h : W.ownsRow base e size v n xs) : n ≤ maxLen := by
  rcases h.2 with ⟨_, h0⟩ | ⟨g, cap, cur, _, _, _, h1, h2, _⟩
  · omega
  · exact Nat.le_trans h1 h2
theorem nds_reads {W : World} {base : Nat} {L : Nat → Prop} {v : Value} {ns : List Nd} {cs : List Value} (h1 : W.ownsRow base 53 6 v ns.length cs) (h2 : NdsIn W L ns cs) : NodesR W v ns := by
  obtain ⟨a, c, e⟩ := own_shape h1
  refine ⟨a, c, e, own_len h1, fun hne => ?_⟩
  obtain ⟨g, cap, e2, _, _, hc⟩ := own_at h1 (List.length_pos_iff.2 hne)
  rw [e] at e2
  injection e2 with e2
  refine ⟨g, 0, e2, fun j n hj => ?_⟩
  obtain ⟨a0, a1, a2, a3, a4, kv, a5, a6⟩ := nd_cells h2 hj
  simp only [Nat.zero_add]
  exact ⟨hc _ _ a0, hc _ _ a1, hc _ _ a2, hc _ _ a3, hc _ _ a4, kv, hc _ _ a5, a6.reads⟩
theorem Given.reads {w W : World} {v : Value} {ns : List Nd} (h : Given w W v ns) : NodesR W v ns := by
  obtain ⟨cs, h1, h2⟩ := h
  exact nds_reads h1 h2
theorem DeclsAt.reads {w W : World} {v : Value} {l : List (Dc × Value)} (h : DeclsAt w W v l) : DeclsR W v (l.map (·.1)) := by
  obtain ⟨a, c, e⟩ := own_shape h.own
  refine ⟨a, c, by rw [List.length_map]; exact e, by rw [List.length_map]; exact own_len h.own, fun hne => ?_⟩
  obtain ⟨g, cap, e2, _, _, _⟩ := own_at h.own (by cases l with | nil => simp at hne | cons => simp)
  rw [e] at e2
  injection e2 with e2 _ e3
  subst e2 e3 e
  refine ⟨g, 0, rfl, fun j d hj => ?_⟩
  rw [List.getElem?_map] at hj
  cases hp : l[j]? with
  | none => rw [hp] at hj; cases hj
  | some p =>
    rw [hp] at hj
    injection hj with hj
    subst hj
    obtain ⟨a0, a1, a2, a3, a4, a5⟩ := h.decl hp
    simp only [Nat.zero_add]
    exact ⟨a0, a1, ⟨_, a2, (h.given p (List.mem_of_getElem? hp)).reads⟩, a3, a4, a5⟩
end Go.Proofs.Ytkiijfgoaeiphaa

/- SameInts, SameNodes, SameDecl, SameDecls: where both are the same. -/
set_option linter.unusedVariables false
set_option linter.unusedSimpArgs false
namespace Go.Proofs.Ytkiijfgoaeiphaa
open Go.RowKit
attribute [local go_sem ↓] Go.wp_at_zero Go.wp_at_succ

def PostYes (w : World) (e : Ending) (w' : World) : Prop := e = .returned (.bool true) ∧ Below w.heap.size w w'

set_option maxHeartbeats 1000000 in
theorem sameInts_any (xs : List Int) (u v : Value) (w : World) (hu : KidsR w u xs) (hv : KidsR w v xs) : Calls Try.prog 58 #[u, v] w (PostYes w) := by
  generalize hPost : PostYes w = Post
  have e0 := Sec.mk hPost
  clear hPost
  obtain ⟨ua, uc, rfl, hm, hu2⟩ := hu
  obtain ⟨va, vc, rfl, _, hv2⟩ := hv
  unfold maxLen at hm
  have hm' : (xs.length : Int) ≤ 9223372036854775807 := by omega
  have hu' := Sec.mk hu2
  have hv' := Sec.mk hv2
  clear hu2 hv2
  go_enter Try.func58, Try.ntmps58
  go_wp2_with fail
  go_loopg [5] xs.length (fun n iv wr => ∃ k : Nat, iv = .int .i64 k ∧ Sec (k + n = xs.length) ∧ Below w.heap.size w wr)
  case atStart => exact ⟨0, rfl, ⟨by omega⟩, Below.refl _ _⟩
  case round =>
    obtain ⟨k, rfl, hk, hB⟩ := hrel
    by_cases hlt : k < xs.length
    · have hki : (k : Int) < (xs.length : Int) := by omega
      have hk0 : (0 : Int) ≤ (k : Int) := by omega
      have hw1 : IntKind.i64.wrap ((k : Int) + 1) = (k : Int) + 1 := IntWalk.i64_in _ (by omega)
      cases gk with
      | zero => have := hk.out; omega
      | succ n =>
        have hne : xs ≠ [] := by intro e; rw [e] at hlt; simp at hlt
        obtain ⟨ub, uo, rfl, huc⟩ := hu'.out hne
        obtain ⟨vb, vo, rfl, hvc⟩ := hv'.out hne
        have hg := List.getElem?_eq_getElem hlt
        have t1 := below_stays hB _ _ (huc k _ hg)
        have t2 := below_stays hB _ _ (hvc k _ hg)
        clear huc hvc hg hne
        generalize xs[k] = x at *
        go_wp2_with fail
        go_quiet (fail)
        go_wp2_with fail
        go_roundg n
        case measure => omega
        case rel => exact ⟨k + 1, by rw [show ((k + 1 : Nat) : Int) = (k : Int) + 1 from by omega], ⟨by have := hk.out; omega⟩, hB.trans ((below_drewN _ _).mono hB.size)⟩
    · have hki : ¬ (k : Int) < (xs.length : Int) := by omega
      go_wp2_with fail
      rw [← e0.out]
      exact ⟨rfl, hB⟩

set_option maxRecDepth 100000 in
set_option maxHeartbeats 2000000 in
theorem sameNodes_any (xs : List Nd) (u v : Value) (w : World) (hu : NodesR w u xs) (hv : NodesR w v xs) : Calls Try.prog 42 #[u, v] w (PostYes w) := by
  generalize hPost : PostYes w = Post
  have e0 := Sec.mk hPost
  clear hPost
  obtain ⟨ua, uc, rfl, hm, hu2⟩ := hu
  obtain ⟨va, vc, rfl, _, hv2⟩ := hv
  unfold maxLen at hm
  have hm' : (xs.length : Int) ≤ 9223372036854775807 := by omega
  have hu' := Sec.mk hu2
  have hv' := Sec.mk hv2
  clear hu2 hv2
  go_enter Try.func42, Try.ntmps42
  go_wp2_with fail
  go_loopg [5, 6, 7] xs.length (fun n iv _ _ wr => ∃ k : Nat, iv = .int .i64 k ∧ Sec (k + n = xs.length) ∧ Below w.heap.size w wr)
  case atStart => exact ⟨0, rfl, ⟨by omega⟩, Below.refl _ _⟩
  case round =>
    obtain ⟨k, rfl, hk, hB⟩ := hrel
    by_cases hlt : k < xs.length
    · have hki : (k : Int) < (xs.length : Int) := by omega
      have hk0 : (0 : Int) ≤ (k : Int) := by omega
      have hw1 : IntKind.i64.wrap ((k : Int) + 1) = (k : Int) + 1 := IntWalk.i64_in _ (by omega)
      cases gk with
      | zero => have := hk.out; omega
      | succ n =>
        have hne : xs ≠ [] := by intro e; rw [e] at hlt; simp at hlt
        obtain ⟨ub, uo, rfl, huc⟩ := hu'.out hne
        obtain ⟨vb, vo, rfl, hvc⟩ := hv'.out hne
        have hg := List.getElem?_eq_getElem hlt
        obtain ⟨a0, a1, a2, a3, a4, kv, a5, a6⟩ := huc k _ hg
        obtain ⟨b0, b1, b2, b3, b4, kw, b5, b6⟩ := hvc k _ hg
        have hst : Stays w wr := below_stays hB
        replace a0 := hst _ _ a0
        replace a1 := hst _ _ a1
        replace a2 := hst _ _ a2
        replace a3 := hst _ _ a3
        replace a4 := hst _ _ a4
        replace a5 := hst _ _ a5
        replace b0 := hst _ _ b0
        replace b1 := hst _ _ b1
        replace b2 := hst _ _ b2
        replace b3 := hst _ _ b3
        replace b4 := hst _ _ b4
        replace b5 := hst _ _ b5
        have hK1 := Sec.mk (a6.stay hst)
        have hK2 := Sec.mk (b6.stay hst)
        obtain ⟨ka, kc, e, _⟩ := a6
        subst e
        obtain ⟨la, lc, e, _⟩ := b6
        subst e
        clear huc hvc hg hne hst
        generalize xs[k] = x at *
        obtain ⟨xk, xl, xh, xn, xm, xi⟩ := x
        simp only at a0 a1 a2 a3 a4 a5 b0 b1 b2 b3 b4 b5 hK1 hK2
        have hq : (xm.toList == xm.toList) = true := beq_self_eq_true _
        have hub := World.block_lt_of_cell? wr _ a0
        have hvb := World.block_lt_of_cell? wr _ b0
        dsimp only at hub hvb
        have hub' : ub ≠ wr.heap.size := by omega
        have hvb' : vb ≠ wr.heap.size := by omega
        go_wp2_with fail
        refine (sameInts_any xi _ _ _ (hK1.out.stay (below_stays (((Below.refl _ wr).alloc (Nat.le_refl _) _).alloc (by simp) _))) (hK2.out.stay (below_stays (((Below.refl _ wr).alloc (Nat.le_refl _) _).alloc (by simp) _)))).mono ?_
        rintro e W1 ⟨rfl, hB1⟩
        have hB2 := ((hB.alloc hB.size _).alloc (by have := hB.size; simp; omega) _).trans (hB1.mono (by have := hB.size; simp; omega))
        clear hB1 a0 a1 a2 a3 a4 a5 b0 b1 b2 b3 b4 b5
        go_wp2_with fail
        go_roundg n
        case measure => omega
        case rel => exact ⟨k + 1, by rw [show ((k + 1 : Nat) : Int) = (k : Int) + 1 from by omega], ⟨by have := hk.out; omega⟩, hB2⟩
    · have hki : ¬ (k : Int) < (xs.length : Int) := by omega
      go_wp2_with fail
      rw [← e0.out]
      exact ⟨rfl, hB⟩

abbrev dcVal (d : Dc) (nv : Value) : Value := .agg #[.int .i64 d.lo, .int .i64 d.hi, nv, .int .i64 d.flt.code, .int .i64 d.flt.lo, .int .i64 d.flt.hi]
set_option maxHeartbeats 2000000 in
theorem sameDecl_any (d : Dc) (u v : Value) (w : World) (hu : NodesR w u d.nodes) (hv : NodesR w v d.nodes) : Calls Try.prog 26 #[dcVal d u, dcVal d v] w (PostYes w) := by
  generalize hPost : PostYes w = Post
  have e0 := Sec.mk hPost
  clear hPost
  obtain ⟨dl, dh, dn, ⟨dc, df, dt⟩⟩ := d
  have hK1 := Sec.mk hu
  have hK2 := Sec.mk hv
  obtain ⟨ua, uc, rfl, _⟩ := hu
  obtain ⟨va, vc, rfl, _⟩ := hv
  dsimp only
  go_enter Try.func26, Try.ntmps26
  go_wp2_with fail
  refine (sameNodes_any dn _ _ _ (hK1.out.stay (below_stays (((Below.refl _ w).alloc (Nat.le_refl _) _).alloc (by simp) _))) (hK2.out.stay (below_stays (((Below.refl _ w).alloc (Nat.le_refl _) _).alloc (by simp) _)))).mono ?_
  rintro e W1 ⟨rfl, hB1⟩
  have hB2 := (((Below.refl _ w).alloc (Nat.le_refl _) _).alloc (by simp) _).trans (hB1.mono (by simp; omega))
  clear hB1
  go_wp2_with fail
  rw [← e0.out]
  exact ⟨rfl, hB2⟩

theorem stay4 {W W' : World} {a b c d : Addr} {x y z u : Value} (h : W.cell? a = some x ∧ W.cell? b = some y ∧ W.cell? c = some z ∧ W.cell? d = some u) (hB : Stays W W') : W'.cell? a = some x ∧ W'.cell? b = some y ∧ W'.cell? c = some z ∧ W'.cell? d = some u :=
  ⟨hB _ _ h.1, hB _ _ h.2.1, hB _ _ h.2.2.1, hB _ _ h.2.2.2⟩
set_option maxRecDepth 100000 in
set_option maxHeartbeats 2000000 in
theorem sameDecls_any (xs : List Dc) (u v : Value) (w : World) (hu : DeclsR w u xs) (hv : DeclsR w v xs) : Calls Try.prog 13 #[u, v] w (PostYes w) := by
  generalize hPost : PostYes w = Post
  have e0 := Sec.mk hPost
  clear hPost
  obtain ⟨ua, uc, rfl, hm, hu2⟩ := hu
  obtain ⟨va, vc, rfl, _, hv2⟩ := hv
  unfold maxLen at hm
  have hm' : (xs.length : Int) ≤ 9223372036854775807 := by omega
  have hu' := Sec.mk hu2
  have hv' := Sec.mk hv2
  clear hu2 hv2
  go_enter Try.func13, Try.ntmps13
  go_wp2_with fail
  go_loopg [5] xs.length (fun n iv wr => ∃ k : Nat, iv = .int .i64 k ∧ Sec (k + n = xs.length) ∧ Below w.heap.size w wr)
  case atStart => exact ⟨0, rfl, ⟨by omega⟩, Below.refl _ _⟩
  case round =>
    obtain ⟨k, rfl, hk, hB⟩ := hrel
    by_cases hlt : k < xs.length
    · have hki : (k : Int) < (xs.length : Int) := by omega
      have hk0 : (0 : Int) ≤ (k : Int) := by omega
      have hw1 : IntKind.i64.wrap ((k : Int) + 1) = (k : Int) + 1 := IntWalk.i64_in _ (by omega)
      cases gk with
      | zero => have := hk.out; omega
      | succ n =>
        have hne : xs ≠ [] := by intro e; rw [e] at hlt; simp at hlt
        obtain ⟨ub, uo, rfl, huc⟩ := hu'.out hne
        obtain ⟨vb, vo, rfl, hvc⟩ := hv'.out hne
        have hg := List.getElem?_eq_getElem hlt
        have hst : Stays w wr := below_stays hB
        obtain ⟨a0, a1, ⟨nu, a2, a6⟩, a3, a4, a5⟩ := huc k _ hg
        obtain ⟨b0, b1, ⟨nv, b2, b6⟩, b3, b4, b5⟩ := hvc k _ hg
        have hK1 := Sec.mk (a6.stay hst)
        have hK2 := Sec.mk (b6.stay hst)
        obtain ⟨ka, kc, e, _⟩ := a6
        subst e
        obtain ⟨la, lc, e, _⟩ := b6
        subst e
        have s1 := stay4 ⟨a0, a1, a2, a3⟩ hst
        have s2 := stay4 ⟨b0, b1, b2, b3⟩ hst
        have s3 := stay4 ⟨a4, a5, b4, b5⟩ hst
        clear huc hvc hg hne hst a0 a1 a2 a3 a4 a5 b0 b1 b2 b3 b4 b5
        generalize xs[k] = x at *
        obtain ⟨dl, dh, dn, ⟨dc, df, dt⟩⟩ := x
        simp only at s1 s2 s3 hK1 hK2
        have hS1 : (wr.drew.cell? ⟨ub, uo + k * 6, none⟩ = some (.int .i64 dl) ∧ wr.drew.cell? ⟨ub, uo + k * 6 + 1, none⟩ = some (.int .i64 dh) ∧ wr.drew.cell? ⟨ub, uo + k * 6 + 2, none⟩ = some (.slice ka dn.length kc) ∧ wr.drew.cell? ⟨ub, uo + k * 6 + 3, none⟩ = some (.int .i64 dc)) ∧ (wr.drew.cell? ⟨vb, vo + k * 6, none⟩ = some (.int .i64 dl) ∧ wr.drew.cell? ⟨vb, vo + k * 6 + 1, none⟩ = some (.int .i64 dh) ∧ wr.drew.cell? ⟨vb, vo + k * 6 + 2, none⟩ = some (.slice la dn.length lc) ∧ wr.drew.cell? ⟨vb, vo + k * 6 + 3, none⟩ = some (.int .i64 dc)) ∧ (wr.drew.cell? ⟨ub, uo + k * 6 + 4, none⟩ = some (.int .i64 df) ∧ wr.drew.cell? ⟨ub, uo + k * 6 + 5, none⟩ = some (.int .i64 dt) ∧ wr.drew.cell? ⟨vb, vo + k * 6 + 4, none⟩ = some (.int .i64 df) ∧ wr.drew.cell? ⟨vb, vo + k * 6 + 5, none⟩ = some (.int .i64 dt)) := ⟨s1, s2, s3⟩
        clear s1 s2 s3
        go_wp2_with fail
        go_region_held3 (fun w' => (w'.cell? ⟨ub, uo + k * 6, none⟩ = some (.int .i64 dl) ∧ w'.cell? ⟨ub, uo + k * 6 + 1, none⟩ = some (.int .i64 dh) ∧ w'.cell? ⟨ub, uo + k * 6 + 2, none⟩ = some (.slice ka dn.length kc) ∧ w'.cell? ⟨ub, uo + k * 6 + 3, none⟩ = some (.int .i64 dc)) ∧ (w'.cell? ⟨vb, vo + k * 6, none⟩ = some (.int .i64 dl) ∧ w'.cell? ⟨vb, vo + k * 6 + 1, none⟩ = some (.int .i64 dh) ∧ w'.cell? ⟨vb, vo + k * 6 + 2, none⟩ = some (.slice la dn.length lc) ∧ w'.cell? ⟨vb, vo + k * 6 + 3, none⟩ = some (.int .i64 dc)) ∧ (w'.cell? ⟨ub, uo + k * 6 + 4, none⟩ = some (.int .i64 df) ∧ w'.cell? ⟨ub, uo + k * 6 + 5, none⟩ = some (.int .i64 dt) ∧ w'.cell? ⟨vb, vo + k * 6 + 4, none⟩ = some (.int .i64 df) ∧ w'.cell? ⟨vb, vo + k * 6 + 5, none⟩ = some (.int .i64 dt)))
          (first | with_reducible exact hS3 | with_reducible exact hS1 | fail)
          (first | (go_at_call 26; refine (sameDecl_any ⟨dl, dh, dn, ⟨dc, df, dt⟩⟩ _ _ _ (hK1.out.stay (below_stays (Below.refl _ wr).drew)) (hK2.out.stay (below_stays (Below.refl _ wr).drew))).mono ?_; rintro e W1 ⟨rfl, hB1⟩; have hS3 := (show _ ∧ _ ∧ _ from ⟨stay4 hS1.1 (below_stays hB1), stay4 hS1.2.1 (below_stays hB1), stay4 hS1.2.2 (below_stays hB1)⟩)))
        have hB2 := hB.drew.trans (hB1.mono (by have := hB.size; simp; omega))
        clear hB1 hS1 hS3
        go_wp2_with fail
        go_roundg n
        case measure => omega
        case rel => exact ⟨k + 1, by rw [show ((k + 1 : Nat) : Int) = (k : Int) + 1 from by omega], ⟨by have := hk.out; omega⟩, hB2⟩
    · have hki : ¬ (k : Int) < (xs.length : Int) := by omega
      go_wp2_with fail
      rw [← e0.out]
      exact ⟨rfl, hB⟩
end Go.Proofs.Ytkiijfgoaeiphaa

/- ReparseRows: the walk. -/
set_option linter.unusedVariables false
set_option linter.unusedSimpArgs false
namespace Go.Proofs.Ytkiijfgoaeiphaa
open Go.RowKit
attribute [local go_sem ↓] Go.wp_at_zero Go.wp_at_succ

theorem samePiece_eq {s t : ByteArray} {x y : Nat × Nat} (h : samePiece s t x y = true) : subtext s x = subtext t y := by
  unfold samePiece at h
  have h' := beq_iff_eq.1 h
  rw [ba_toList, ba_toList] at h'
  exact ByteArray.ext (Array.toList_inj.1 h')
theorem fronts_same {s t : ByteArray} : ∀ {a b : List (Nat × Nat)} {i : Nat} {x y : Nat × Nat}, i < fronts s t a b → a[i]? = some x → b[i]? = some y → subtext s x = subtext t y
  | [], _, i, x, y, _, ha, _ => by simp at ha
  | _ :: _, [], i, x, y, _, _, hb => by simp at hb
  | p :: a, q :: b, 0, x, y, h, ha, hb => by
    rw [fronts] at h
    have ha' : p = x := by simpa using ha
    have hb' : q = y := by simpa using hb
    subst ha' hb'
    split at h
    · rename_i hp; exact samePiece_eq hp
    · omega
  | p :: a, q :: b, i + 1, x, y, h, ha, hb => by
    rw [fronts] at h
    split at h
    · exact fronts_same (a := a) (b := b) (i := i) (by omega) (by simpa using ha) (by simpa using hb)
    · omega
theorem reparse_parse (s t : ByteArray) : reparse s (parse s) t = parse t := by
  unfold reparse
  rw [if_pos (parse_len s)]
  apply List.ext_getElem?
  intro i
  rw [List.getElem?_mapIdx, show parse t = (spans t).map (declOf t) from rfl, List.getElem?_map]
  cases hr : (spans t)[i]? with
  | none => rfl
  | some r =>
    have hi := (List.getElem?_eq_some_iff.1 hr).1
    have hl := rear_le s t
    simp only [Option.map_some]
    congr 1
    unfold pickDc
    have key : ∀ (j : Nat) (x : Nat × Nat), (spans s)[j]? = some x → subtext s x = subtext t r → (⟨r.1, r.2, (((parse s)[j]?).getD noDc).nodes, (((parse s)[j]?).getD noDc).flt⟩ : Dc) = declOf t r := by
      intro j x hj he
      rw [show parse s = (spans s).map (declOf s) from rfl, List.getElem?_map, hj]
      simp only [Option.map_some, Option.getD_some, declOf, he]
    split
    · rename_i h1
      have hj : i < (spans s).length := by omega
      exact key i _ (List.getElem?_eq_getElem hj) (fronts_same h1 (List.getElem?_eq_getElem hj) hr)
    · rename_i h1
      split
      · rename_i h2
        rw [parse_len]
        have hj : (spans s).length - ((spans t).length - i) < (spans s).length := by omega
        refine key _ _ (List.getElem?_eq_getElem hj) (fronts_same (a := ((spans s).drop (front s t)).reverse) (b := ((spans t).drop (front s t)).reverse) (i := (spans t).length - 1 - i) (by
          have : rear s t = fronts s t ((spans s).drop (front s t)).reverse ((spans t).drop (front s t)).reverse := rfl
          omega) ?_ ?_)
        · rw [back_get (by omega), show (spans s).length - 1 - ((spans t).length - 1 - i) = (spans s).length - ((spans t).length - i) by omega]
          exact List.getElem?_eq_getElem hj
        · rw [back_get (by omega), show (spans t).length - 1 - ((spans t).length - 1 - i) = i by omega]
          exact hr
      · rfl

/-- A list of texts that is read. -/
def TextsR (W : World) (v : Value) (ss : List ByteArray) : Prop :=
  ∃ ad c, v = .slice ad ss.length c ∧ (ss ≠ [] → ∃ b o, ad = some ⟨b, o, none⟩ ∧ ∀ j s, ss[j]? = some s → W.cell? ⟨b, o + j, none⟩ = some (.string s))
def lens (ss : List ByteArray) : Nat := (ss.map fun s => s.size + 1).sum
theorem lens_take {ss : List ByteArray} {k : Nat} {s : ByteArray} (h : ss[k]? = some s) : lens (ss.take (k + 1)) = lens (ss.take k) + (s.size + 1) := by
  unfold lens
  rw [List.take_add_one, h]; simp
theorem lens_le (ss : List ByteArray) (k : Nat) : lens (ss.take k) ≤ lens ss := by
  conv => rhs; rw [← List.take_append_drop k ss]
  unfold lens
  rw [List.map_append, List.sum_append]; omega
theorem lens_mem {ss : List ByteArray} {k : Nat} {s : ByteArray} (h : ss[k]? = some s) : s.size + 1 ≤ lens ss := by
  have := lens_take h
  have := lens_le ss (k + 1)
  omega
theorem lens_len (ss : List ByteArray) : ss.length ≤ lens ss := by
  induction ss with
  | nil => simp
  | cons s r ih => unfold lens at *; simp; omega

set_option maxRecDepth 100000 in
set_option maxHeartbeats 4000000 in
theorem rows_walk (ss : List ByteArray) (v : Value) (w : World) (hv : TextsR w v ss) (hsum : lens ss ≤ 1048576) : Calls Try.prog 6 #[v] w (PostYes w) := by
  generalize hPost : PostYes w = Post
  have e0 := Sec.mk hPost
  clear hPost
  obtain ⟨va, vc, rfl, hv2⟩ := hv
  have hv' := Sec.mk hv2
  clear hv2
  have hll := lens_len ss
  have hm' : (ss.length : Int) ≤ 1048576 := by omega
  go_enter Try.func6, Try.ntmps6
  go_wp2_with fail
  refine (alive11_any _).mono ?_
  rintro e W0 ⟨rfl, hB0⟩
  go_wp2_with fail
  go_loopg [3, 4] ss.length (fun n nv iv wr => ∃ k : Nat, iv = .int .i64 k ∧ nv = .int .i64 (lens (ss.take k)) ∧ Sec (k + n = ss.length) ∧ Below w.heap.size w wr)
  case atStart => exact ⟨0, rfl, rfl, ⟨by omega⟩, hB0⟩
  case round =>
    obtain ⟨k, rfl, rfl, hk, hB⟩ := hrel
    by_cases hlt : k < ss.length
    · have hki : (k : Int) < (ss.length : Int) := by omega
      have hk0 : (0 : Int) ≤ (k : Int) := by omega
      have hw1 : IntKind.i64.wrap ((k : Int) + 1) = (k : Int) + 1 := IntWalk.i64_in _ (by omega)
      cases gk with
      | zero => have := hk.out; omega
      | succ n =>
        have hne : ss ≠ [] := by intro e; rw [e] at hlt; simp at hlt
        obtain ⟨ub, uo, rfl, huc⟩ := hv'.out hne
        have hg := List.getElem?_eq_getElem hlt
        have t1 := below_stays hB _ _ (huc k _ hg)
        have hlt2 := Sec.mk (lens_take hg)
        have hlm := lens_mem hg
        have hl2 := lens_le ss (k + 1)
        rw [hlt2.out] at hl2
        clear huc hg hne
        generalize ss[k] = x at *
        have hx : (x.size : Int) ≤ 1048576 := by omega
        have hw2 : IntKind.i64.wrap ((x.size : Int) + 1) = (x.size : Int) + 1 := IntWalk.i64_in _ (by omega)
        have hw3 : IntKind.i64.wrap ((lens (ss.take k) : Int) + ((x.size : Int) + 1)) = (lens (ss.take k) : Int) + ((x.size : Int) + 1) := IntWalk.i64_in _ (by omega)
        go_wp2_with fail
        go_roundg n
        case measure => omega
        case rel => exact ⟨k + 1, by rw [show ((k + 1 : Nat) : Int) = (k : Int) + 1 from by omega], by rw [hlt2.out]; congr 1, ⟨by have := hk.out; omega⟩, hB⟩
    · have hki : ¬ (k : Int) < (ss.length : Int) := by omega
      rw [List.take_of_length_le (by omega)]
      clear hlt hk
      by_cases hbig : 5000 < (lens ss : Int)
      · go_wp2_with fail
        rw [← e0.out]
        exact ⟨rfl, hB⟩
      go_wp2_with fail
      refine (Parse_all ⟨#[]⟩ (by decide) _).mono ?_
      rintro e W1 ⟨v1, l1, rfl, hl1, hD1⟩
      obtain ⟨a1, c1, hv1⟩ := own_shape hD1.own
      subst hv1
      have hD1' := hD1.base hB
      have hB1 := hB.trans (hD1.below.mono hB.size)
      clear hD1
      go_wp2_with fail
      go_loopg [5, 6, 7] ss.length (fun n sv dv iv wr => ∃ (k : Nat) (s : ByteArray) (l : List (Dc × Value)), iv = .int .i64 k ∧ sv = .string s ∧ Sec (k + n = ss.length) ∧ s.size ≤ 5000 ∧ Sec (l.map (·.1) = parse s) ∧ DeclsAt w wr dv l ∧ Below w.heap.size w wr)
      case atStart => exact ⟨0, ⟨#[]⟩, l1, rfl, rfl, ⟨by omega⟩, by decide, ⟨hl1⟩, hD1', hB1⟩
      case round =>
        obtain ⟨k, s, l, rfl, rfl, hk, hs, hl, hD, hB⟩ := hrel
        obtain ⟨da, dc, hdv⟩ := own_shape hD.own
        subst hdv
        by_cases hlt : k < ss.length
        · have hki : (k : Int) < (ss.length : Int) := by omega
          have hk0 : (0 : Int) ≤ (k : Int) := by omega
          have hw1 : IntKind.i64.wrap ((k : Int) + 1) = (k : Int) + 1 := IntWalk.i64_in _ (by omega)
          cases gk with
          | zero => have := hk.out; omega
          | succ n =>
            have hne : ss ≠ [] := by intro e; rw [e] at hlt; simp at hlt
            obtain ⟨ub, uo, rfl, huc⟩ := hv'.out hne
            have hg := List.getElem?_eq_getElem hlt
            have t0 := huc k _ hg
            have t1 := below_stays hB _ _ t0
            have hlm := lens_mem hg
            clear huc hg hne
            generalize ss[k] = x at *
            have hx : x.size ≤ 5000 := by omega
            have hls := spans_len s
            have hlen : l.length ≤ 100000000 := by
              have h1 := congrArg List.length hl.out
              rw [List.length_map, parse_len] at h1
              omega
            go_wp2_with fail
            refine (reparse_any s x (by omega) (by omega) _ _ _ l hD (parse_few (by omega) hl.out) hlen).mono ?_
            rintro e W2 ⟨v2, l2, rfl, hl2, hD2⟩
            rw [hl.out, reparse_parse] at hl2
            obtain ⟨a2, c2, hv2⟩ := own_shape hD2.own
            subst hv2
            have t2 := below_stays hD2.below _ _ t1
            go_wp2_with fail
            refine (Parse_all x (by omega) _).mono ?_
            rintro e W3 ⟨v3, l3, rfl, hl3, hD3⟩
            obtain ⟨a3, c3, hv3⟩ := own_shape hD3.own
            subst hv3
            have hD4 := hD2.later hD3.below
            go_wp2_with fail
            have r2 := hD4.reads
            have r3 := hD3.reads
            rw [hl2] at r2
            rw [hl3] at r3
            have q2 : l2.length = (parse x).length := by rw [← hl2, List.length_map]
            have q3 : l3.length = (parse x).length := by rw [← hl3, List.length_map]
            refine (sameDecls_any (parse x) _ _ _ r2 r3).mono ?_
            rintro e W4 ⟨rfl, hB4⟩
            have hD5 := (hD4.later hB4).base hB
            have hB5 := hD5.below
            clear hD hB hD2 hD3 hD4 hB4 r2 r3 t1 t2 q2 q3
            go_wp2_with fail
            go_roundg n
            case measure => omega
            case rel => exact ⟨k + 1, x, l2, by rw [show ((k + 1 : Nat) : Int) = (k : Int) + 1 from by omega], rfl, ⟨by have := hk.out; omega⟩, hx, ⟨hl2⟩, hD5, hB5⟩
        · have hki : ¬ (k : Int) < (ss.length : Int) := by omega
          go_wp2_with fail
          rw [← e0.out]
          exact ⟨rfl, hB⟩
end Go.Proofs.Ytkiijfgoaeiphaa

/- Proved: parlancelaw11.ReparseRows answers true for every list of strings of bulk at most 1048576, and the list reads as before. Condition: the bulk, as the statement's second form has it. -/
set_option linter.unusedVariables false
namespace Go.Proofs.Ytkiijfgoaeiphaa.ReparseRowsProof
open Go.ChangeShapes Go.WideShapes Go.ChangeAt Go.RowKit Go.ChangeMaps
theorem laid : laidOutB Try.prog = true := by kernel_rfl
theorem own : ownKnob Try.prog.godebug = none := by kernel_rfl

theorem bulk_strs {H : Type} : ∀ l : List ByteArray, Rows.uptoBulkAll (strs (H := H) l) = lens l
  | [] => rfl
  | s :: r => by
    have := bulk_strs (H := H) r
    simp only [strs, List.map_cons, Rows.uptoBulkAll, Rows.uptoBulk, lens, List.sum_cons] at this ⊢
    rw [this]; simp

theorem contract (H : Type) (enc : TypeId × Value → H) (W : World) (base : Nat) (args : Array Value) (ds gs : List (DataW H)) (before : List MemPlace)
    (hval0 : ∀ (j : Nat) t v, Try.f6.params[j]? = some t → args[j]? = some v → Value.okWide Try.prog W .any base t v)
    (hW : DataW.Whole enc Try.prog Try.f6.params.toList Rows.reparseRowsSpec.vars false W args.toList ds gs before) (hk : Rows.uptoSmall H (ds ++ gs) = true) :
    Calls Try.prog 6 args W fun e W' => ∃ v, e = .returned v ∧ Rows.reparseRowsSpec.post enc Try.prog Try.f6 false true false false W args v W' := by
  have hval : ∀ (j : Nat) t v, Try.f6.params[j]? = some t → args[j]? = some v → Value.okWide Try.prog W .any base t v := hval0
  have hW' := hW
  obtain ⟨p, q, hA0, hV, rfl, hfz, hnd⟩ := hW
  have hA : DataW.TrodAll enc Try.prog W 0 (fun _ => true) true Try.f6.params.toList args.toList ds p := hA0
  rw [Try.params6] at hA hval
  obtain ⟨v0, vs0, d0, ds0, p0, q0, hargs, rfl, rfl, h0, r0⟩ := trodAll_cons hA
  obtain ⟨rfl, rfl, rfl⟩ := trodAll_nil r0
  obtain rfl : args = #[v0] := by cases args; simp_all
  obtain ⟨rfl, rfl⟩ := trodVars_none hV
  obtain ⟨a0, len, cap, rfl⟩ := okWide_slice Try.underlying44 (hval 0 44 v0 rfl rfl)
  have h0k := h0
  obtain ⟨fuel, hf⟩ := h0
  clear hA0 hval0
  simp only [List.append_nil] at hW' hk
  have hlt : ∀ x ∈ p0, x.block < W.heap.size := fun x hx => by simpa using hW'.lt x hx
  have hbulk : Rows.uptoBulkAll [d0] ≤ 1048576 := of_decide_eq_true hk
  have go : ∀ ss, TextsR W (.slice a0 len cap) ss → lens ss ≤ 1048576 → Calls Try.prog 6 #[.slice a0 len cap] W fun e W' => ∃ v, e = .returned v ∧ Rows.reparseRowsSpec.post enc Try.prog Try.f6 false true false false W #[.slice a0 len cap] v W' := by
    intro ss hT hs
    refine (rows_walk ss _ W hT hs).mono fun e W' ⟨he, hg⟩ => ?_
    subst he
    refine ⟨_, rfl, post_below (pa := p0) (pv := []) hW' (fun _ _ _ => (trodAll_cons_mk (shut_bool Try.underlying4 _) trodAll_mk0)) (fun sp hsp => ?_) (fun _ _ => rfl) (by simp) hg (ok_one (by kernel_rfl) rfl (okWide_bool_mk Try.underlying4 _))⟩
    have := trodAll_cons_mk (WideElems.Trod_stays (base := 0) laid (by kernel_rfl) (of_decide_eq_true (by kernel_rfl)) h0k (fun x hx => hg.same (hlt x hx)) (fun x hx => hsp x (by simpa using hx))) trodAll_mk0
    have this2 : DataW.TrodAll enc Try.prog W' 0 sp true [44] [.slice a0 len cap] [d0] p0 := by simpa using this
    exact this2
  rcases open_strings Try.underlying44 Try.underlying9 (by kernel_rfl) hf with ⟨hcs, hx⟩ | ⟨a, len', cap', zs, hcs, _, hl, hm, hz, hx, hcell, hwz⟩
  · simp [Value.cells] at hcs
    obtain ⟨rfl, rfl, rfl⟩ := hcs
    exact go [] ⟨none, 0, rfl, fun h => absurd rfl h⟩ (by decide)
  · simp [Value.cells] at hcs
    obtain ⟨rfl, rfl, rfl⟩ := hcs
    simp only [Prod.mk.injEq] at hx
    obtain ⟨rfl, rfl⟩ := hx
    simp only [if_true] at hz
    have hlen : (zs.take len).length = len := by simp; omega
    refine go (zs.take len) ⟨some a, cap, by rw [hlen], fun hne => ?_⟩ ?_
    · obtain ⟨b, off, spot⟩ := a
      have h1 : 0 < len := by
        have := List.length_pos_iff.2 hne
        omega
      have hspot : spot = none := by simpa [Addr.add] using World.cell?_spot (hcell 0 (by omega))
      subst hspot
      refine ⟨b, off, rfl, fun j s hj => ?_⟩
      have hj' : j < len := by
        have := (List.getElem?_eq_some_iff.1 hj).1
        omega
      rw [List.getElem?_take, if_pos hj'] at hj
      have := hcell j (by omega)
      rw [List.getD_eq_getElem?_getD, hj] at this
      rwa [show (⟨b, off, none⟩ : Addr).add j = ⟨b, off + j, none⟩ by simp [Addr.add]] at this
    · simp only [Rows.uptoBulkAll, Rows.uptoBulk, bulk_strs] at hbulk
      omega

set_option maxRecDepth 100000 in
theorem lifted (os : Os) (started : os.Started) (H : Type) (enc : TypeId × Value → H) (F : Stop.Interp) :
    ReturnsInHanded {} Try.checked os 6 .any ((Rows.OpenSpec.upto Rows.reparseRowsSpec).pre6 enc Try.prog Try.f6 Rows.reparseRowsUptoRow.domain false) (((Rows.OpenSpec.upto Rows.reparseRowsSpec).at F).post enc Try.prog Try.f6 false true false false) := by
  refine returnsInHanded_of_cond (C := Try.checked) (s := Rows.OpenSpec.upto Rows.reparseRowsSpec) (k := Rows.uptoSmall) rfl own started (by kernel_rfl) Try.func6
    (OpenSpec.witness (enc := enc) (C := Try.checked) (s := Rows.OpenSpec.upto Rows.reparseRowsSpec) (k := Rows.uptoSmall) rfl false ⟨#[], #[.slice none 0 0], []⟩ 8 (by kernel_rfl) (by kernel_rfl) (by kernel_rfl)
      (x := ([.nil], [], [])) (by kernel_rfl) rfl (by kernel_rfl)) ?_
  intro W base args ds gs before hval hW _ hk _
  exact contract H enc W base args ds gs before hval hW hk

theorem over : Rows.reparseRowsUptoRow.holds Try.pinned (Rows.OpenSpec.upto Rows.reparseRowsSpec) :=
  OpenClaim.holds_of_cond 6 Try.f6 rfl rfl rfl rfl rfl rfl rfl ⟨rfl, rfl, rfl, rfl, rfl⟩ rfl rfl rfl rfl rfl (by kernel_rfl) Try.func6 (by kernel_rfl)
    (of_decide_eq_true (by kernel_rfl)) (by unfold Func.isWrapper; first | (rw [if_pos (by decide +kernel)]; kernel_rfl) | (rw [if_neg (by decide +kernel)]; exact ⟨rfl, rfl⟩))
    (fun os started H enc _ F => lifted os started H enc F)

theorem proved : Rows.ReparseRowsUptoSaid := over
#print axioms proved
end Go.Proofs.Ytkiijfgoaeiphaa.ReparseRowsProof
