/- slices.Clone; reparse.copied. -/
import Derived.Test.YtkiijfgoaeiphaaGf
import Derived.Laws.OwnMore
import Derived.Test.YtkiijfgoaeiphaaGa
import Derived.Deep.RegionHeld3
import Derived.Deep.CutBlock
import Derived.Deep.CutRange
set_option linter.unusedVariables false
set_option linter.unusedSimpArgs false
namespace Go.Proofs.Ytkiijfgoaeiphaa
open Go.RowKit
attribute [local go_sem ↓] Go.wp_at_zero Go.wp_at_succ

/-- A row that is read, wherever it begins. -/
def RowO (W : World) (v : Value) (n : Nat) (ys : List Value) : Prop := ∃ ad c, v = .slice (some ad) n c ∧ ∀ j u, ys[j]? = some u → W.cell? (ad.add j) = some u
theorem push_row {ops : Array Oper} {rest : List Oper} {o : Oper} {a : Act} {Q : Exit → Act → World → Prop} {e sl : TypeId} {z0 : Value} {size bytes base n m : Nat} {W : World} {v sv : Value} {xs ys : List Value}
    (hU : Try.prog.underlying sl = some (TypeDesc.slice e)) (hinfo : (Try.prog.info? e).map (fun i => (i.zero, i.size, i.bytes)) = some (some z0, size, bytes)) (hz0 : z0.cells.size = size) (hsz : 0 < size) (hby : bytes ≤ 72)
    (hgd : o.guard = none) (s z : Operand) (ho : o.op = .call { callee := .builtin .append, args := #[s, z], argTypes := #[sl, sl] })
    (hs : a.eval s = v) (hz : a.eval z = sv) (hown : W.ownsRow base e size v n xs) (hr : RowO W sv m ys) (hlen : ys.length = m * size) (hy1 : ∀ u ∈ ys, u.oneCell' = true) (hbase : base ≤ W.heap.size) (hl : n + m ≤ 1000000000)
    (h : ∀ v' w', w'.ownsRow base e size v' (n + m) (xs ++ ys) → Apart v.ownBlock W w' → (v'.ownBlock = v.ownBlock ∨ v'.ownBlock = some W.heap.size) → wpList Try.prog ops Q rest (a.put o.dst v') w') :
    wpList Try.prog ops Q (o :: rest) a W := by
  obtain ⟨i0, hi0, h0, h1, h2⟩ := info_parts hinfo
  have hb2 : (n + m) * bytes ≤ 1000000000 * 72 := Nat.mul_le_mul hl hby
  obtain ⟨ad, c, rfl, hc⟩ := hr
  obtain ⟨v1, w1, hr1, hown1, hgr, _, hat⟩ := run_append_own_at (P := Try.prog) W base sl o.type e i0 z0 size bytes hU hi0 h0 h1 h2 hz0 hsz v n xs hown ad m c ys hlen hc hy1 (by unfold maxLen; omega) (by omega) hbase
  refine wpList_plain hgd fun K hK' => ?_
  unfold Oper.wp execOp
  simp only [ho, resolve, invoke, builtin, Sem.run_bind, Sem.run_pure, Result.andThen_ok, List.map_toArray, List.map_cons, List.map_nil, hs, hz, hr1]
  exact hK' _ _ (h v1 w1 hown1 ⟨hgr.os, hgr.tape, hgr.output, hgr.size, fun i hi hne => hgr.block i hi hne⟩ hat)
theorem infoInt : (Try.prog.info? 3).map (fun i => (i.zero, i.size, i.bytes)) = some (some (.int .i64 0), 1, 8) := by kernel_rfl
theorem infoNode : (Try.prog.info? 53).map (fun i => (i.zero, i.size, i.bytes)) = some (some (.agg #[.int .i64 0, .int .i64 0, .int .i64 0, .int .i64 0, .string ⟨#[]⟩, .slice none 0 0]), 6, 72) := by kernel_rfl

/-- An own row of whole numbers, as a node's parts. -/
theorem own_kids {W : World} {base : Nat} {v : Value} {l : List Int} {L : Nat → Prop} (h : W.ownsRow base 3 1 v l.length (ints l)) (hL : ∀ k, v.ownBlock = some k → ¬ L k) : KidsIn W L v l := by
  rcases h.2 with ⟨rfl, h0⟩ | ⟨g, cap, cur, rfl, hb, hh, h1, h2, h3, h4⟩
  · have : l = [] := List.eq_nil_of_length_eq_zero h0
    subst this
    exact kids_nil _ _
  · refine ⟨_, cap, rfl, h1, h2, fun _ => ⟨g, 0, cur, (0, 0), rfl, hL g rfl, hh, fun j y hj => ?_⟩⟩
    have hj' : j < l.length := (List.getElem?_eq_some_iff.1 hj).1
    have h5 : (ints l)[j]? = some (.int .i64 y) := by simp [ints, hj]
    rw [← h4, List.getElem?_take, if_pos (by omega)] at h5
    simpa using h5
theorem ints_one (l : List Int) : ∀ u ∈ ints l, u.oneCell' = true := by
  intro u hu
  simp only [ints, List.mem_map] at hu
  obtain ⟨c, _, rfl⟩ := hu
  rfl

set_option maxHeartbeats 1000000 in
theorem cloneInts_any (L : Nat → Prop) (kv : Value) (xs : List Int) (w : World) (h : KidsIn w L kv xs) (hl : xs.length ≤ 1000000000) :
    Calls Try.prog 46 #[kv] w fun e w' => ∃ v, e = .returned v ∧ KidsIn w' (fun i => i < w.heap.size) v xs ∧ Below w.heap.size w w' := by
  generalize hPost : (fun (e : Ending) (w' : World) => ∃ v, e = .returned v ∧ KidsIn w' (fun i => i < w.heap.size) v xs ∧ Below w.heap.size w w') = Post
  have e0 := Sec.mk hPost
  clear hPost
  obtain ⟨ad, c, rfl, h1, h2, h3⟩ := h
  go_enter Try.func46, Try.ntmps46
  cases ad with
  | none =>
    have hx : xs = [] := Classical.byContradiction fun hne => by obtain ⟨b, o, cur, fr, e, _⟩ := h3 hne; cases e
    subst hx
    clear h3
    have hq : ∀ w : World, (binOp .eql 51 (.slice none 0 c) (.slice none 0 0)).run Try.prog w = .ok (.bool true) w := fun _ => rfl
    go_wp2_with fail
    rw [← e0.out]
    exact ⟨_, rfl, kids_nil _ _, Below.refl _ _⟩
  | some ad =>
    have hr : RowO (w.alloc (.cells #[] 3)) (.slice (some ad) xs.length c) xs.length (ints xs) := by
      refine ⟨ad, c, rfl, fun j u hu => ?_⟩
      have hj : j < xs.length := by
        have := (List.getElem?_eq_some_iff.1 hu).1
        simpa [ints] using this
      obtain ⟨b, o, cur, fr, e, _, hb, hc⟩ := h3 (by intro e; rw [e] at hj; simp at hj)
      injection e with e
      subst e
      have hx : u = .int .i64 xs[j] := by
        simp [ints, List.getElem?_eq_getElem hj] at hu
        exact hu.symm
      have hbl := heap_lt hb
      subst hx
      rw [show (⟨b, o, none⟩ : Addr).add j = ⟨b, o + j, none⟩ by simp [Addr.add]]
      refine (World.cell?_alloc_lt _ _ _ hbl).trans ?_
      have := hc j _ (List.getElem?_eq_getElem hj)
      simp [World.cell?, hb, this]
    have hn := own_new w w.heap.size (Nat.le_refl _) #[] 3 1 0 rfl (by simp)
    have hq : ∀ w : World, (binOp .eql 51 (.slice (some ad) xs.length c) (.slice none 0 0)).run Try.prog w = .ok (.bool false) w := fun _ => rfl
    go_wp2_with (at_builtin; refine push_row Try.underlying51 infoInt rfl (by omega) (by omega) rfl _ _ rfl (by rfl) (by rfl) hn hr (by simp [ints]) (ints_one _) (by simp) (by omega) ?_; intro v' W1 hown hap hat)
    simp only [Nat.zero_add, List.nil_append] at hown
    rw [← e0.out]
    exact ⟨_, rfl, own_kids hown fun k hk => by have := (hown.lt k hk).1; omega, (hap.below ((Below.refl _ w).alloc (Nat.le_refl _) _) (by simp) (fun k hk => by simp [Value.ownBlock] at hk; omega))⟩

/-- The cells of a list of nodes are single cells. -/
theorem nds_one {W : World} {L : Nat → Prop} {ns : List Nd} {cs : List Value} (h : NdsIn W L ns cs) : ∀ u ∈ cs, u.oneCell' = true := by
  intro u hu
  obtain ⟨i, hi, rfl⟩ := List.mem_iff_getElem.1 hu
  have hl := h.1
  have hj : i / 6 < ns.length := by omega
  obtain ⟨a0, a1, a2, a3, a4, kv, a5, a6⟩ := nd_cells h (List.getElem?_eq_getElem hj)
  have hm : i % 6 < 6 := Nat.mod_lt _ (by decide)
  have he : i = i / 6 * 6 + i % 6 := by omega
  have hg := List.getElem?_eq_getElem hi
  generalize cs[i] = u at hg ⊢
  rw [he] at hg
  generalize i % 6 = m at hm hg
  have hm' : m = 0 ∨ m = 1 ∨ m = 2 ∨ m = 3 ∨ m = 4 ∨ m = 5 := by omega
  rcases hm' with rfl | rfl | rfl | rfl | rfl | rfl
  · rw [Nat.add_zero, a0] at hg; injection hg with hg; subst hg; rfl
  · rw [a1] at hg; injection hg with hg; subst hg; rfl
  · rw [a2] at hg; injection hg with hg; subst hg; rfl
  · rw [a3] at hg; injection hg with hg; subst hg; rfl
  · rw [a4] at hg; injection hg with hg; subst hg; rfl
  · rw [a5] at hg; injection hg with hg; subst hg
    obtain ⟨a, c, rfl, _⟩ := a6
    rfl

set_option maxHeartbeats 1000000 in
theorem cloneNodes_any (base : Nat) (nv : Value) (n : Nat) (cs : List Value) (w : World) (h : w.ownsRow base 53 6 nv n cs) (h1 : ∀ u ∈ cs, u.oneCell' = true) (hl : n ≤ 1000000000) :
    Calls Try.prog 45 #[nv] w fun e w' => ∃ v, e = .returned v ∧ w'.ownsRow w.heap.size 53 6 v n cs ∧ Below w.heap.size w w' := by
  generalize hPost : (fun (e : Ending) (w' : World) => ∃ v, e = .returned v ∧ w'.ownsRow w.heap.size 53 6 v n cs ∧ Below w.heap.size w w') = Post
  have e0 := Sec.mk hPost
  clear hPost
  go_enter Try.func45, Try.ntmps45
  by_cases h0 : n = 0
  · subst h0
    obtain rfl : cs = [] := List.eq_nil_of_length_eq_zero (by simpa using h.1)
    have hn := own_new w w.heap.size (Nat.le_refl _) #[] 53 6 0 rfl (by simp)
    rcases h.2 with ⟨rfl, _⟩ | ⟨g, cap, cur, rfl, hb, hh, hr⟩
    · have hq : ∀ w : World, (binOp .eql 23 (.slice none 0 0) (.slice none 0 0)).run Try.prog w = .ok (.bool true) w := fun _ => rfl
      go_wp2_with fail
      rw [← e0.out]
      exact ⟨_, rfl, World.ownsRow_nil _ _ _ _, Below.refl _ _⟩
    · have hq : ∀ w : World, (binOp .eql 23 (.slice (some ⟨g, 0, none⟩) 0 cap) (.slice none 0 0)).run Try.prog w = .ok (.bool false) w := fun _ => rfl
      have hr : RowO (w.alloc (.cells #[] 53)) (.slice (some ⟨g, 0, none⟩) 0 cap) 0 [] := ⟨_, _, rfl, fun j u hu => by simp at hu⟩
      go_wp2_with (at_builtin; refine push_row Try.underlying23 infoNode rfl (by omega) (by omega) rfl _ _ rfl (by rfl) (by rfl) hn hr rfl h1 (by simp) (by omega) ?_; intro v' W1 hown hap hat)
      simp only [Nat.zero_add, List.nil_append] at hown
      rw [← e0.out]
      exact ⟨_, rfl, hown, hap.below ((Below.refl _ w).alloc (Nat.le_refl _) _) (by simp) (fun k hk => by simp [Value.ownBlock] at hk; omega)⟩
  · obtain ⟨g, cap, rfl, hb, hg, hc⟩ := own_at h (by omega)
    have hn := own_new w w.heap.size (Nat.le_refl _) #[] 53 6 0 rfl (by simp)
    have hq : ∀ w : World, (binOp .eql 23 (.slice (some ⟨g, 0, none⟩) n cap) (.slice none 0 0)).run Try.prog w = .ok (.bool false) w := fun _ => rfl
    have hr : RowO (w.alloc (.cells #[] 53)) (.slice (some ⟨g, 0, none⟩) n cap) n cs := ⟨_, _, rfl, fun j u hu => by
      rw [show (⟨g, 0, none⟩ : Addr).add j = ⟨g, j, none⟩ by simp only [Addr.add, Nat.zero_add]; split <;> simp_all]
      exact (World.cell?_alloc_lt _ _ _ hg).trans (hc j u hu)⟩
    have hcl := h.1
    clear hc
    go_wp2_with (at_builtin; refine push_row Try.underlying23 infoNode rfl (by omega) (by omega) rfl _ _ rfl (by rfl) (by rfl) hn hr hcl h1 (by simp) (by omega) ?_; intro v' W1 hown hap hat)
    simp only [Nat.zero_add, List.nil_append] at hown
    rw [← e0.out]
    exact ⟨_, rfl, hown, hap.below ((Below.refl _ w).alloc (Nat.le_refl _) _) (by simp) (fun k hk => by simp [Value.ownBlock] at hk; omega)⟩
end Go.Proofs.Ytkiijfgoaeiphaa

/- reparse.copied. -/
set_option linter.unusedVariables false
set_option linter.unusedSimpArgs false
namespace Go.Proofs.Ytkiijfgoaeiphaa
open Go.RowKit
attribute [local go_sem ↓] Go.wp_at_zero Go.wp_at_succ

/-- The first k nodes' parts are new memory (from 'b' on), the others' are whatever. -/
def Half (W : World) (b k : Nat) (ns : List Nd) (cs : List Value) : Prop :=
  cs.length = ns.length * 6 ∧ ∀ j n, ns[j]? = some n → NdIn W (fun i => j < k ∧ i < b) n ((cs.drop (j * 6)).take 6)
theorem Half.start {W : World} {L : Nat → Prop} {b : Nat} {ns : List Nd} {cs : List Value} (h : NdsIn W L ns cs) : Half W b 0 ns cs :=
  ⟨h.1, fun j n hj => (h.2 j n hj).keep fun b cur fr hb hh => ⟨fun hc => by omega, rfl⟩⟩
theorem Half.stop {W : World} {b : Nat} {ns : List Nd} {cs : List Value} (h : Half W b ns.length ns cs) : NdsIn W (fun i => i < b) ns cs :=
  ⟨h.1, fun j n hj => (h.2 j n hj).keep fun b cur fr hb hh => ⟨fun hc => hb ⟨(List.getElem?_eq_some_iff.1 hj).1, hc⟩, rfl⟩⟩
theorem Half.later {W W' : World} {b k : Nat} {ns : List Nd} {cs : List Value} (h : Half W b k ns cs) (hb : Below W.heap.size W W') : Half W' b k ns cs :=
  ⟨h.1, fun j n hj => (h.2 j n hj).keep fun b cur fr hb' hh => ⟨hb', hb.block _ (heap_lt hh)⟩⟩
theorem chunk_same {cs : List Value} {u : Value} {j k : Nat} (h : j ≠ k) : ((cs.set (k * 6 + 5) u).drop (j * 6)).take 6 = (cs.drop (j * 6)).take 6 := by
  apply List.ext_getElem?
  intro i
  rw [List.getElem?_take, List.getElem?_take]
  split
  · rw [List.getElem?_drop, List.getElem?_drop, List.getElem?_set_ne (by omega)]
  · rfl
theorem chunk_set {cs : List Value} {u : Value} {k : Nat} {a b c d e f : Value} (h : (cs.drop (k * 6)).take 6 = [a, b, c, d, e, f]) : ((cs.set (k * 6 + 5) u).drop (k * 6)).take 6 = [a, b, c, d, e, u] := by
  have hl : k * 6 + 5 < cs.length := by
    have := congrArg List.length h
    simp at this
    omega
  apply List.ext_getElem?
  intro i
  have hi := congrArg (fun l => l[i]?) h
  simp only [List.getElem?_take, List.getElem?_drop] at hi ⊢
  by_cases h6 : i < 6
  · rw [if_pos h6] at hi ⊢
    by_cases h5 : i = 5
    · subst h5
      rw [List.getElem?_set_self hl]; rfl
    · rw [List.getElem?_set_ne (by omega), hi]
      have : i = 0 ∨ i = 1 ∨ i = 2 ∨ i = 3 ∨ i = 4 := by omega
      rcases this with rfl | rfl | rfl | rfl | rfl <;> rfl
  · rw [if_neg h6, List.getElem?_eq_none (by simp; omega)]
theorem Half.push {W W' : World} {b k g : Nat} {ns : List Nd} {cs : List Value} {n : Nd} {v : Value} (h : Half W b k ns cs) (hg : ∀ cur fr, W.heap[g]? ≠ some (.cells cur 3 fr)) (hn : ns[k]? = some n) (hv : KidsIn W (fun i => i < b) v n.kids)
    (hk : ∀ i, i ≠ g → W'.heap[i]? = W.heap[i]?) : Half W' b (k + 1) ns (cs.set (k * 6 + 5) v) := by
  refine ⟨by simpa using h.1, fun j m hj => ?_⟩
  by_cases hjk : j = k
  · subst hjk
    obtain ⟨kv, he, _⟩ := h.2 j m hj
    rw [hj] at hn
    injection hn with hn
    subst hn
    exact ⟨v, chunk_set he, hv.keep fun b' cur fr hb hh => ⟨fun hc => hb hc.2, hk _ (fun e => hg cur fr (e ▸ hh))⟩⟩
  · rw [chunk_same hjk]
    exact (h.2 j m hj).keep fun b' cur fr hb hh => ⟨fun hc => hb ⟨by omega, hc.2⟩, hk _ (fun e => hg cur fr (e ▸ hh))⟩

set_option maxRecDepth 100000 in
set_option maxHeartbeats 2000000 in
theorem copied_any (base : Nat) (L : Nat → Prop) (nv : Value) (ns : List Nd) (cs : List Value) (w : World) (h : w.ownsRow base 53 6 nv ns.length cs) (hnd : NdsIn w L ns cs) (hl : ns.length ≤ 1000000000) (hks : ∀ n ∈ ns, n.kids.length ≤ 1000000000) :
    Calls Try.prog 30 #[nv] w fun e w' => ∃ v, e = .returned v ∧ Given w w' v ns ∧ Below w.heap.size w w' := by
  generalize hPost : (fun (e : Ending) (w' : World) => ∃ v, e = .returned v ∧ Given w w' v ns ∧ Below w.heap.size w w') = Post
  have e0 := Sec.mk hPost
  have hks' := Sec.mk hks
  clear hPost hks
  obtain ⟨na, nc, hv⟩ := own_shape h
  subst hv
  go_enter Try.func30, Try.ntmps30
  go_wp2_with fail
  refine (cloneNodes_any base _ ns.length cs w h (nds_one hnd) hl).mono ?_
  rintro e W1 ⟨v1, rfl, hown, hB⟩
  obtain ⟨va, vc, hv⟩ := own_shape hown
  subst hv
  have hH : Half W1 w.heap.size 0 ns cs := (Half.start hnd).later hB
  clear h hnd
  go_wp2_with fail
  go_loopg [4, 9] ns.length (fun n _ iv wr => ∃ (k : Nat) (cs' : List Value), iv = .int .i64 k ∧ Sec (k + n = ns.length) ∧ wr.ownsRow w.heap.size 53 6 (.slice va ns.length vc) ns.length cs' ∧ Half wr w.heap.size k ns cs' ∧ Below w.heap.size w wr)
  case atStart => exact ⟨0, cs, rfl, ⟨by omega⟩, hown, hH, hB⟩
  case round =>
    obtain ⟨k, cs', rfl, hk, hown', hH', hB'⟩ := hrel
    by_cases hlt : k < ns.length
    · have hki : (k : Int) < (ns.length : Int) := by omega
      have hk0 : (0 : Int) ≤ (k : Int) := by omega
      cases gk with
      | zero => have := hk.out; omega
      | succ m =>
        have hg := List.getElem?_eq_getElem hlt
        obtain ⟨g, cap, e1, hgb, hgl, hc⟩ := own_at hown' (by omega)
        injection e1 with e1 _ e2
        subst e1 e2
        obtain ⟨kv, he, hkv⟩ := hH'.2 k _ hg
        have hkl := hks'.out _ (List.getElem_mem hlt)
        generalize ns[k] = nd at *
        have hkc : wr.cell? ⟨g, k * 6 + 5, none⟩ = some kv := hc _ _ (by
          have := congrArg (fun l => l[5]?) he
          simp only [List.getElem?_take, List.getElem?_drop, show 5 < 6 by decide, if_true] at this
          exact this)
        obtain ⟨ka, kc, hkv'⟩ : ∃ a c, kv = .slice a nd.kids.length c := by
          obtain ⟨a, c, e, _⟩ := hkv
          exact ⟨a, c, e⟩
        subst hkv'
        clear hc
        have hgd := Sec.mk hg
        clear hg
        go_wp2_with fail
        refine (cloneInts_any _ _ nd.kids _ hkv hkl).mono ?_
        rintro e W2 ⟨v2, rfl, hK2, hB2⟩
        have hown2 := ownsRow_of_heap hown' fun q hq => hB2.block q (hown'.lt q hq).2
        have hH2 := hH'.later hB2
        have hB3 := hB'.trans (hB2.mono hB'.size)
        have hfz := hown2.frozenAt (k * 6 + 5)
        obtain ⟨ka2, kc2, hv2⟩ : ∃ a c, v2 = .slice a nd.kids.length c := by
          obtain ⟨a, c, e, _⟩ := hK2
          exact ⟨a, c, e⟩
        subst hv2
        have hs := hown2.stored (k * 6 + 5) (.slice ka2 nd.kids.length kc2)
        have hH3 := hH2.push (g := g) (n := nd) (v := .slice ka2 nd.kids.length kc2) (W' := W2.setCell ⟨g, k * 6 + 5, none⟩ (.slice ka2 nd.kids.length kc2)) (fun cur fr hh => by
          obtain ⟨cur', hh'⟩ := own_elem hown2 (k := g) rfl
          rw [hh] at hh'
          injection hh' with hh'
          injection hh' with _ hh'
          exact absurd hh' (by decide)) hgd.out (hK2.keep fun b cur fr hb hh => ⟨fun hc => hb (by have := hB'.size; omega), rfl⟩) (fun i hi => Below.heap_setCell _ _ _ _ hi)
        have hB4 : Below w.heap.size w (W2.setCell ⟨g, k * 6 + 5, none⟩ (.slice ka2 nd.kids.length kc2)) := hB3.setCell (p := ⟨g, k * 6 + 5, none⟩) hgb _
        have hown4 := hs.1
        have hkc2 := (World.cell?_of_block (hB2.block _ hgl)).trans hkc
        clear hs hH2 hown2 hB2 hB3 hK2 hkv he hkc
        go_wp2_with fail
        go_roundg m
        case measure => omega
        case rel => exact ⟨k + 1, _, by rw [show ((k + 1 : Nat) : Int) = (k : Int) + 1 from by omega], ⟨by have := hk.out; omega⟩, hown4, hH3, hB4⟩
    · have hki : ¬ (k : Int) < (ns.length : Int) := by omega
      obtain rfl : k = ns.length := by have := hk.out; omega
      go_wp2_with fail
      rw [← e0.out]
      exact ⟨_, rfl, ⟨cs', hown', hH'.stop⟩, hB'⟩
end Go.Proofs.Ytkiijfgoaeiphaa

/- Plain: no node that the parser makes has more parts than there are tokens, and five. -/
set_option linter.unusedVariables false
set_option linter.unusedSimpArgs false
set_option linter.unusedSectionVars false
namespace Go.Proofs.Ytkiijfgoaeiphaa

def KB (K : Nat) (st : PSt) : Prop := ∀ n ∈ st.nodes, n.kids.length ≤ K
/-- What comes back of m is so. -/
def PB {α : Type} (K : Nat) (m : M α) (R : α → Prop) : Prop := ∀ st a st', KB K st → m st = .ok a st' → KB K st' ∧ R a
section
variable {α β : Type} {K : Nat} {m m' : M α} {R : α → Prop} {R' : β → Prop}
theorem PB.mono {R2 : α → Prop} (h : PB K m R) (hr : ∀ a, R a → R2 a) : PB K m R2 := fun st a st' hk e => ⟨(h st a st' hk e).1, hr _ (h st a st' hk e).2⟩
theorem PB.ret {a : α} (h : R a) : PB K (M.ret a) R := fun st b st' hk e => by
  injection e with e1 e2
  subst e1 e2
  exact ⟨hk, h⟩
theorem PB.bind {k : α → M β} (h : PB K m R) (hk : ∀ a, R a → PB K (k a) R') : PB K (M.bind m k) R' := fun st b st' hb e => by
  simp only [M.bind] at e
  cases hm : m st with
  | ok a st1 => rw [hm] at e; exact hk a (h st a st1 hb hm).2 st1 b st' (h st a st1 hb hm).1 e
  | bad f => rw [hm] at e; cases e
  | stuck => rw [hm] at e; cases e
/-- Nothing is asked of the answer. -/
theorem PB.then {k : α → M β} (h : PB K m fun _ => True) (hk : ∀ a, PB K (k a) R') : PB K (M.bind m k) R' := h.bind fun a _ => hk a
theorem PB.ite {c : PSt → Bool} (h : PB K m R) (h' : PB K m' R) : PB K (fun st => if c st then m st else m' st) R := fun st a st' hk e => by
  dsimp only at e
  split at e
  · exact h st a st' hk e
  · exact h' st a st' hk e
theorem PB.cond {c : Prop} [Decidable c] (h : PB K m R) (h' : PB K m' R) : PB K (if c then m else m') R := by
  split
  · exact h
  · exact h'
theorem PB.stuck : PB K (fun _ => .stuck : M α) R := fun st a st' hk e => by cases e
theorem PB.here {f : PSt → α} (h : ∀ st, R (f st)) : PB K (fun st => .ok (f st) st) R := fun st a st' hk e => by
  injection e with e1 e2
  subst e1 e2
  exact ⟨hk, h _⟩
theorem PB.fail {x : Txt} {c : Nat} : PB K (fail x c : M α) R := fun st a st' hk e => by
  unfold Go.Proofs.Ytkiijfgoaeiphaa.fail at e
  split at e <;> cases e
end
section
variable {K : Nat} {x : Txt}
theorem pb_next : PB K (next x) fun _ => True := fun st a st' hk e => by
  unfold next at e
  split at e
  · injection e with e1 e2; subst e2; exact ⟨hk, trivial⟩
  · cases e
theorem pb_skip {w : ByteArray} : PB K (skip x w) fun _ => True := fun st a st' hk e => by
  unfold skip at e
  split at e
  · injection e with e1 e2; subst e2; exact ⟨hk, trivial⟩
  · injection e with e1 e2; subst e2; exact ⟨hk, trivial⟩
theorem pb_take {w : ByteArray} : PB K (take x w) fun _ => True := PB.ite pb_next PB.fail
theorem pb_takeKind {k : Nat} : PB K (takeKind x k) fun _ => True := PB.ite pb_next PB.fail
theorem pb_add {n : Nd} (h : n.kids.length ≤ K) : PB K (add n) fun _ => True := fun st a st' hk e => by
  unfold add at e
  split at e
  · injection e with e1 e2; subst e2
    refine ⟨fun m hm => ?_, trivial⟩
    rcases List.mem_append.1 hm with hm | hm
    · exact hk m hm
    · have : m = n := by simpa using hm
      exact this ▸ h
  · cases e
theorem pb_from {k : Nat} : PB K (fromOf k) fun _ => True := fun st a st' hk e => by
  unfold fromOf at e
  split at e
  · injection e with e1 e2; subst e2; exact ⟨hk, trivial⟩
  · cases e
theorem pb_to {k : Nat} : PB K (toOf k) fun _ => True := fun st a st' hk e => by
  unfold toOf at e
  split at e
  · injection e with e1 e2; subst e2; exact ⟨hk, trivial⟩
  · cases e
theorem pb_leaf {kind num : Nat} {name : ByteArray} {t : Tok} : PB K (leaf kind num name t) fun _ => True := pb_add (Nat.zero_le _)
end
section
variable {K : Nat} {x : Txt}
theorem pb_bind : PB K (bind x) fun _ => True := by
  unfold bind
  repeat' (first | exact PB.stuck | exact PB.fail | exact pb_next | exact pb_skip | exact pb_take | exact pb_takeKind | exact pb_from | exact pb_to | exact pb_leaf | exact PB.ret trivial | assumption | exact pb_add (by simp) | apply PB.ite | apply PB.cond | refine PB.then ?_ fun _ => ?_)
theorem pb_bindsL : ∀ (n : Nat) (l : List Int), PB K (bindsL x n l) fun r => r.length ≤ l.length + n
  | 0, _ => PB.stuck
  | n + 1, l => PB.ite (PB.then pb_bind fun b => (pb_bindsL n _).mono fun r hr => by simp at hr; omega) (PB.ret (by omega))
theorem pb_wrapL (hK : 2 ≤ K) (first : Option Nat) : ∀ (l : List Int) (body : Nat), PB K (wrapL first l body) fun _ => True
  | [], _ => PB.ret trivial
  | _ :: r, _ => PB.then pb_from fun _ => PB.then pb_to fun _ => PB.then (pb_add (by simpa using hK)) fun k => pb_wrapL hK first r k
theorem pb_wrap (hK : 2 ≤ K) (bs : List Int) (first : Option Nat) (body : Nat) : PB K (wrap bs first body) fun _ => True := pb_wrapL hK first _ _
theorem pb_recM : PB K (recM x) fun _ => True := PB.then pb_skip fun _ => PB.ret trivial
theorem pb_operate (hK : 2 ≤ K) {name : ByteArray} {l r : Nat} : PB K (operate name l r) fun _ => True := PB.then pb_from fun _ => PB.then pb_to fun _ => pb_add (by simpa using hK)
theorem pb_chainL (hK : 2 ≤ K) {operand : M Nat} (h : PB K operand fun _ => True) (signs : List ByteArray) : ∀ (n left : Nat), PB K (chainL x operand signs n left) fun _ => True
  | 0, _ => PB.stuck
  | n + 1, _ => PB.ite (PB.then pb_next fun _ => PB.then h fun _ => PB.then (pb_operate hK) fun k => pb_chainL hK h signs n k) (PB.ret trivial)
theorem pb_chain (hK : 2 ≤ K) {operand : M Nat} (h : PB K operand fun _ => True) (signs : List ByteArray) : PB K (chain x operand signs) fun _ => True := PB.then h fun _ => pb_chainL hK h signs _ _
theorem pb_rowL {part : M Nat} (h : PB K part fun _ => True) : ∀ (n : Nat) (l : List Int), PB K (rowL x part n l) fun r => r.length ≤ l.length + n
  | 0, _ => PB.stuck
  | n + 1, l => PB.then pb_skip fun b => PB.cond (PB.then h fun k => (pb_rowL h n _).mono fun r hr => by simp at hr; omega) (PB.ret (by omega))
theorem pb_brackets (hK : x.toks.length + 2 ≤ K) {unit tuple : Nat} {part : M Nat} (h : PB K part fun _ => True) : PB K (brackets x unit tuple part) fun _ => True :=
  PB.then pb_take fun _ => PB.ite (PB.then pb_next fun _ => pb_add (Nat.zero_le _)) (PB.then h fun k0 => (pb_rowL h _ _).bind fun kids hk => PB.then pb_take fun _ => PB.cond (PB.ret trivial) (pb_add (by simp at hk; show kids.length ≤ K; omega)))
theorem pb_atom (hK : x.toks.length + 2 ≤ K) {E : M Nat} (h : PB K E fun _ => True) : PB K (atom x E) fun _ => True :=
  PB.ite (PB.ite (c := fun st => (number x st).2) (m := fun st => M.bind (next x) (fun t => leaf 7 (number x st).1 ⟨#[]⟩ t) st) (fun st => (PB.then (K := K) pb_next fun _ => pb_leaf) st)
    (PB.ite (PB.then pb_next fun _ => pb_leaf) (PB.ite (PB.then pb_next fun _ => pb_leaf) (PB.ite (PB.then pb_next fun _ => pb_leaf) (PB.ite (PB.then pb_next fun _ => pb_leaf) (pb_brackets hK h)))))) PB.fail
theorem pb_applyL (hK : x.toks.length + 2 ≤ K) {E : M Nat} (h : PB K E fun _ => True) : ∀ (n left : Nat), PB K (applyL x E n left) fun _ => True
  | 0, _ => PB.stuck
  | n + 1, _ => PB.ite (PB.then (pb_atom hK h) fun _ => PB.then pb_from fun _ => PB.then pb_to fun _ => PB.then (pb_add (by simp; omega)) fun k => pb_applyL hK h n k) (PB.ret trivial)
theorem pb_apply (hK : x.toks.length + 2 ≤ K) {E : M Nat} (h : PB K E fun _ => True) : PB K (apply x E) fun _ => True := PB.then (pb_atom hK h) fun _ => pb_applyL hK h _ _
theorem pb_sum (hK : x.toks.length + 2 ≤ K) {E : M Nat} (h : PB K E fun _ => True) : PB K (sum x E) fun _ => True := pb_chain (by omega) (pb_chain (by omega) (pb_apply hK h) _) _
theorem pb_compare (hK : x.toks.length + 2 ≤ K) {E : M Nat} (h : PB K E fun _ => True) : PB K (compare x E) fun _ => True :=
  PB.then (pb_sum hK h) fun _ => PB.ite (c := fun st => isW x ⟨#[61]⟩ st || isW x ⟨#[60]⟩ st) (PB.then pb_next fun _ => PB.then (pb_sum hK h) fun _ => pb_operate (by omega)) (PB.ret trivial)
theorem pb_function (hK : x.toks.length + 2 ≤ K) {E : M Nat} (h : PB K E fun _ => True) : PB K (function x E) fun _ => True :=
  PB.then pb_take fun _ => PB.then pb_bind fun _ => (pb_bindsL _ _).bind fun _ _ => PB.then pb_take fun _ => PB.then h fun _ => pb_wrap (by omega) _ _ _
theorem pb_letIn (hK : x.toks.length + 3 ≤ K) {E : M Nat} (h : PB K E fun _ => True) : PB K (letIn x E) fun _ => True :=
  PB.then pb_take fun _ => PB.then pb_recM fun _ => PB.then pb_bind fun _ => (pb_bindsL _ _).bind fun _ _ => PB.then pb_take fun _ => PB.then h fun _ => PB.then (pb_wrap (by omega) _ _ _) fun _ => PB.then pb_take fun _ => PB.then h fun _ => PB.then pb_to fun _ => pb_add (by simp; omega)
theorem pb_choice (hK : x.toks.length + 3 ≤ K) {E : M Nat} (h : PB K E fun _ => True) : PB K (choice x E) fun _ => True :=
  PB.then pb_take fun _ => PB.then h fun _ => PB.then pb_take fun _ => PB.then h fun _ => PB.then pb_take fun _ => PB.then h fun _ => PB.then pb_to fun _ => pb_add (by simp; omega)
theorem pb_closed (hK : x.toks.length + 2 ≤ K) {E : M Nat} (h : PB K E fun _ => True) : PB K (closed x E) fun _ => True :=
  PB.ite (PB.ite (c := fun st => (number x st).2) (m := fun st => M.bind (next x) (fun t => leaf 19 (number x st).1 ⟨#[]⟩ t) st) (fun st => (PB.then (K := K) pb_next fun _ => pb_leaf) st)
    (PB.ite pb_bind (PB.ite (PB.then pb_next fun _ => pb_leaf) (PB.ite (PB.then pb_next fun _ => pb_leaf) (PB.ite (PB.then pb_next fun _ => pb_leaf) (PB.ite (PB.then pb_next fun _ => pb_leaf) (pb_brackets hK h))))))) PB.fail
theorem pb_patK (hK : x.toks.length + 2 ≤ K) : ∀ k : Nat, PB K (patK x k) fun _ => True
  | 0 => PB.fail
  | k + 1 => PB.ite (PB.then pb_next fun _ => PB.ite (PB.then (pb_closed hK (pb_patK hK k)) fun _ => PB.then pb_to fun _ => pb_add (by simp; omega)) (pb_add (Nat.zero_le _))) (pb_closed hK (pb_patK hK k))
theorem pb_arm (hK : 2 ≤ K) {E Pt : M Nat} (h : PB K E fun _ => True) (h' : PB K Pt fun _ => True) : PB K (arm x E Pt) fun _ => True :=
  PB.then h' fun _ => PB.then pb_take fun _ => PB.then h fun _ => PB.then pb_from fun _ => PB.then pb_to fun _ => pb_add (by simpa using hK)
theorem pb_armsL (hK : 2 ≤ K) {E Pt : M Nat} (h : PB K E fun _ => True) (h' : PB K Pt fun _ => True) : ∀ (n : Nat) (l : List Int), PB K (armsL x E Pt n l) fun r => r.length ≤ l.length + n
  | 0, _ => PB.stuck
  | n + 1, l => PB.then (pb_arm hK h h') fun k => PB.then pb_skip fun b => PB.cond ((pb_armsL hK h h' n _).mono fun r hr => by simp at hr; omega) (PB.ret (by rw [List.length_append, List.length_cons, List.length_nil]; omega))
theorem pb_matchM (hK : x.toks.length + 2 ≤ K) {E Pt : M Nat} (h : PB K E fun _ => True) (h' : PB K Pt fun _ => True) : PB K (matchM x E Pt) fun _ => True :=
  PB.then pb_take fun _ => PB.then h fun _ => PB.then pb_take fun _ => PB.then pb_skip fun _ => (pb_armsL (by omega) h h' _ _).bind fun kids hk => PB.then pb_to fun _ => pb_add (by simp at hk; show kids.length ≤ K; omega)
theorem pb_exprK (hK : x.toks.length + 3 ≤ K) : ∀ k : Nat, PB K (exprK x k) fun _ => True
  | 0 => PB.fail
  | k + 1 => PB.ite (pb_function (by omega) (pb_exprK hK k)) (PB.ite (pb_letIn hK (pb_exprK hK k)) (PB.ite (pb_choice hK (pb_exprK hK k)) (PB.ite (pb_matchM (by omega) (pb_exprK hK k) (pb_patK (by omega) k)) (pb_compare (by omega) (pb_exprK hK k)))))
theorem pb_tick : PB K (tick x) fun _ => True := PB.then pb_takeKind fun _ => PB.cond pb_leaf PB.stuck
theorem pb_namedFirst (hK : x.toks.length + 2 ≤ K) {T : M Nat} (h : PB K T fun _ => True) : PB K (namedFirst x T) fun _ => True :=
  PB.ite pb_tick (PB.ite (PB.then pb_next fun _ => pb_leaf) (PB.then pb_take fun _ => PB.then h fun k0 => (pb_rowL h _ _).bind fun kids hk => PB.then pb_take fun _ => PB.cond (PB.ret trivial) (PB.then pb_takeKind fun _ => pb_add (by simp at hk; show kids.length ≤ K; omega))))
theorem pb_namedL (hK : 1 ≤ K) : ∀ (n part : Nat), PB K (namedL x n part) fun _ => True
  | 0, _ => PB.stuck
  | n + 1, _ => PB.ite (PB.then pb_next fun _ => PB.then pb_from fun _ => PB.then (pb_add (by simpa using hK)) fun k => pb_namedL hK n k) (PB.ret trivial)
theorem pb_named (hK : x.toks.length + 2 ≤ K) {T : M Nat} (h : PB K T fun _ => True) : PB K (named x T) fun _ => True := PB.then (pb_namedFirst hK h) fun _ => pb_namedL (by omega) _ _
theorem pb_pairL (hK : x.toks.length + 2 ≤ K) {T : M Nat} (h : PB K T fun _ => True) : ∀ (n : Nat) (l : List Int), PB K (pairL x T n l) fun r => r.length ≤ l.length + n
  | 0, _ => PB.stuck
  | n + 1, l => PB.then pb_skip fun b => PB.cond (PB.then (pb_named hK h) fun k => (pb_pairL hK h n _).mono fun r hr => by simp at hr; omega) (PB.ret (by omega))
theorem pb_pair (hK : x.toks.length + 2 ≤ K) {T : M Nat} (h : PB K T fun _ => True) : PB K (pair x T) fun _ => True :=
  PB.then (pb_named hK h) fun k0 => (pb_pairL hK h _ _).bind fun kids hk => PB.cond (PB.ret trivial) (PB.then pb_from fun _ => PB.then pb_to fun _ => pb_add (by simp at hk; show kids.length ≤ K; omega))
theorem pb_typK (hK : x.toks.length + 2 ≤ K) : ∀ k : Nat, PB K (typK x k) fun _ => True
  | 0 => PB.fail
  | k + 1 => PB.then (pb_pair hK (pb_typK hK k)) fun _ => PB.then pb_skip fun b => PB.cond (PB.then (pb_typK hK k) fun _ => PB.then pb_from fun _ => PB.then pb_to fun _ => pb_add (by simp; omega)) (PB.ret trivial)
theorem pb_typeCase (hK : x.toks.length + 2 ≤ K) : PB K (typeCase x) fun _ => True :=
  PB.then pb_takeKind fun _ => PB.then pb_skip fun b => PB.cond (PB.then (pb_typK hK 65) fun _ => PB.then pb_to fun _ => pb_add (by simp; omega)) (pb_add (Nat.zero_le _))
theorem pb_ticksL : ∀ (n : Nat) (l : List Int), PB K (ticksL x n l) fun r => r.length ≤ l.length + n
  | 0, _ => PB.stuck
  | n + 1, l => PB.ite (PB.then pb_tick fun b => (pb_ticksL n _).mono fun r hr => by simp at hr; omega) (PB.ret (by omega))
theorem pb_casesL (hK : x.toks.length + 2 ≤ K) : ∀ (n : Nat) (l : List Int), PB K (casesL x n l) fun r => r.length ≤ l.length + n
  | 0, _ => PB.stuck
  | n + 1, l => PB.then (pb_typeCase hK) fun k => PB.then pb_skip fun b => PB.cond ((pb_casesL hK n _).mono fun r hr => by simp at hr; omega) (PB.ret (by rw [List.length_append, List.length_cons, List.length_nil]; omega))
theorem pb_typeDecl (hK : 2 * x.toks.length + 5 ≤ K) : PB K (typeDecl x) fun _ => True :=
  PB.then pb_take fun _ => (pb_ticksL _ _).bind fun ticks ht => PB.then pb_takeKind fun _ => PB.then pb_take fun _ => PB.then pb_skip fun _ => (pb_casesL (by omega) _ _).bind fun kids hk => PB.then pb_to fun _ =>
    PB.then (pb_add (by simp at ht; show kids.length ≤ K; omega)) fun _ => PB.ret trivial
theorem pb_decl (hK : 2 * x.toks.length + 5 ≤ K) : PB K (decl x) fun _ => True :=
  PB.ite (pb_typeDecl hK) (PB.then pb_take fun _ => PB.then pb_recM fun _ => PB.then pb_bind fun _ => (pb_bindsL _ _).bind fun _ _ => PB.then pb_take fun _ => PB.then (pb_exprK (by omega) 65) fun _ => PB.then (pb_wrap (by omega) _ _ _) fun _ => PB.then pb_to fun _ =>
    PB.then (pb_add (by simp; omega)) fun _ => PB.ret trivial)
theorem pb_whole (hK : 2 * x.toks.length + 5 ≤ K) : PB K (whole x) fun _ => True :=
  PB.then (pb_decl hK) fun _ => fun st a st' hk e => by
    split at e
    · exact ⟨(PB.fail (R := fun _ => True) st a st' hk e).1, trivial⟩
    · injection e with e1 e2; subst e2; exact ⟨hk, trivial⟩
end
theorem whole_kids {s : ByteArray} {ts : List Tok} {st' : PSt} {u : Unit} (h : whole ⟨s, ts⟩ ⟨0, []⟩ = .ok u st') : ∀ n ∈ st'.nodes, n.kids.length ≤ 2 * ts.length + 5 :=
  (pb_whole (x := ⟨s, ts⟩) (Nat.le_refl _) _ _ _ (fun n hn => by simp at hn) h).1
end Go.Proofs.Ytkiijfgoaeiphaa

/- reparse: piece, pieces, kept, Changed. -/
set_option linter.unusedVariables false
set_option linter.unusedSimpArgs false
namespace Go.Proofs.Ytkiijfgoaeiphaa
open Go.RowKit
attribute [local go_sem ↓] Go.wp_at_zero Go.wp_at_succ

theorem piece_any (s : ByteArray) (a b : Nat) (h1 : a ≤ b) (h2 : b ≤ s.size) (hs : s.size ≤ 100000000) (w : World) : Calls Try.prog 44 #[.string s, .agg #[.int .i64 a, .int .i64 b]] w fun e w' => e = .returned (.string (s.extract a b)) ∧ Below w.heap.size w w' := by
  generalize hPost : (fun (e : Ending) (w' : World) => e = .returned (.string (s.extract a b)) ∧ Below w.heap.size w w') = Post
  have e0 := Sec.mk hPost
  clear hPost
  have k1 : (a : Int) ≤ (b : Int) := by omega
  have k2 : (b : Int) ≤ (s.size : Int) := by omega
  go_enter Try.func44, Try.ntmps44
  go_wp2_with fail
  rw [← e0.out]
  exact ⟨rfl, (Below.refl _ _).alloc (Nat.le_refl _) _⟩

theorem pieces_any (s : ByteArray) (hs : s.size ≤ 100000000) (w : World) : Calls Try.prog 28 #[.string s] w (PostSpans w (spans s)) := by
  have hs1 : s.size ≤ most := by unfold most; omega
  have hs2 : s.size ≤ maxLen := by unfold maxLen; omega
  have hll := lex_len s
  generalize hPost : PostSpans w (spans s) = Post
  have e0 := Sec.mk hPost
  clear hPost
  go_enter Try.func28, Try.ntmps28
  go_wp2_with fail
  refine (lex_any s hs1 _).mono ?_
  rintro e W1 ⟨v, rfl, hT⟩
  obtain ⟨ta, tc, hv⟩ := hT.shape
  subst hv
  go_wp2_with fail
  refine (spans_any s hs2 (lex s) _ W1 ((hT.reads (by omega)).keepBl fun b hb => hb.2) (by omega)).mono ?_
  rintro e W2 ⟨v2, rfl, hS, hB2⟩
  have hB : Below w.heap.size w W2 := hT.below.trans (hB2.mono hT.below.size)
  have hS2 := own_mono hS hT.below.size
  obtain ⟨sa, sc, hv⟩ := own_shape hS
  subst hv
  clear hS hT hB2
  go_wp2_with fail
  rw [← e0.out]
  exact ⟨_, rfl, hS2, hB⟩

/-- Are two pieces the same? -/
def samePiece (s t : ByteArray) (x y : Nat × Nat) : Bool := (s.extract x.1 x.2).toList == (t.extract y.1 y.2).toList
/-- How many pieces are the same at the front. -/
def fronts (s t : ByteArray) : List (Nat × Nat) → List (Nat × Nat) → Nat
  | x :: xs, y :: ys => if samePiece s t x y then fronts s t xs ys + 1 else 0
  | _, _ => 0
/-- How many of the others are the same at the end. -/
def ends (s t : ByteArray) (f : Nat) (a b : List (Nat × Nat)) : Nat := fronts s t (a.drop f).reverse (b.drop f).reverse
theorem fronts_le (s t : ByteArray) : ∀ a b : List (Nat × Nat), fronts s t a b ≤ a.length ∧ fronts s t a b ≤ b.length
  | [], _ => by simp [fronts]
  | _ :: _, [] => by simp [fronts]
  | x :: xs, y :: ys => by
    have := fronts_le s t xs ys
    rw [fronts]
    split <;> simp <;> omega
theorem fronts_step {s t : ByteArray} {a b : List (Nat × Nat)} {k : Nat} {x y : Nat × Nat} (ha : a[k]? = some x) (hb : b[k]? = some y) :
    fronts s t (a.drop k) (b.drop k) = if samePiece s t x y then fronts s t (a.drop (k + 1)) (b.drop (k + 1)) + 1 else 0 := by
  obtain ⟨h1, rfl⟩ := List.getElem?_eq_some_iff.1 ha
  obtain ⟨h2, rfl⟩ := List.getElem?_eq_some_iff.1 hb
  rw [List.drop_eq_getElem_cons h1, List.drop_eq_getElem_cons h2, fronts]
theorem fronts_end {s t : ByteArray} {a b : List (Nat × Nat)} {k : Nat} (h : a.length ≤ k ∨ b.length ≤ k) : fronts s t (a.drop k) (b.drop k) = 0 := by
  rcases h with h | h
  · rw [List.drop_eq_nil_of_le h, fronts.eq_def]
  · have : b.drop k = [] := List.drop_eq_nil_of_le h
    rw [this, fronts.eq_def]; cases a.drop k <;> rfl
theorem back_get {a : List (Nat × Nat)} {f e : Nat} (h : e + f < a.length) : (a.drop f).reverse[e]? = a[a.length - 1 - e]? := by
  rw [List.getElem?_reverse (by simp; omega), List.getElem?_drop, List.length_drop]
  congr 1; omega
theorem span_at {W : World} {base : Nat} {v : Value} {l : List (Nat × Nat)} (h : W.ownsRow base 61 2 v l.length (l.flatMap spanCells)) {k : Nat} {r : Nat × Nat} (hk : l[k]? = some r) :
    ∃ g c, v = .slice (some ⟨g, 0, none⟩) l.length c ∧ g < W.heap.size ∧ W.cell? ⟨g, k * 2, none⟩ = some (.int .i64 r.1) ∧ W.cell? ⟨g, k * 2 + 1, none⟩ = some (.int .i64 r.2) := by
  have hl := (List.getElem?_eq_some_iff.1 hk).1
  obtain ⟨g, c, e, _, hg, hc⟩ := own_at h (by omega)
  have q := fun i u hu => hc (k * 2 + i) u (flat_get (enc := spanCells) (n := 2) (fun _ => rfl) l k r hk i u hu)
  exact ⟨g, c, e, hg, q 0 _ rfl, q 1 _ rfl⟩
/-- The rows lie in their texts. -/
def InText (s : ByteArray) (l : List (Nat × Nat)) : Prop := ∀ r ∈ l, r.1 ≤ r.2 ∧ r.2 ≤ s.size

theorem hold4 {W W' : World} {a b c d : Addr} {x y z u : Value} (h : W.cell? a = some x ∧ W.cell? b = some y ∧ W.cell? c = some z ∧ W.cell? d = some u) (hB : Below W.heap.size W W') : W'.cell? a = some x ∧ W'.cell? b = some y ∧ W'.cell? c = some z ∧ W'.cell? d = some u :=
  ⟨(World.cell?_of_block (hB.block _ (World.block_lt_of_cell? W _ h.1))).trans h.1, (World.cell?_of_block (hB.block _ (World.block_lt_of_cell? W _ h.2.1))).trans h.2.1, (World.cell?_of_block (hB.block _ (World.block_lt_of_cell? W _ h.2.2.1))).trans h.2.2.1, (World.cell?_of_block (hB.block _ (World.block_lt_of_cell? W _ h.2.2.2))).trans h.2.2.2⟩

set_option maxRecDepth 100000 in
set_option maxHeartbeats 4000000 in
theorem kept_any (s t : ByteArray) (hs : s.size ≤ 100000000) (ht : t.size ≤ 100000000) (a b : List (Nat × Nat)) (ha : InText s a) (hb : InText t b) (w : World) (ba bb : Nat) (va vb : Value)
    (hva : w.ownsRow ba 61 2 va a.length (a.flatMap spanCells)) (hvb : w.ownsRow bb 61 2 vb b.length (b.flatMap spanCells)) (hla : a.length ≤ 100000000) (hlb : b.length ≤ 100000000) :
    Calls Try.prog 29 #[.string s, va, .string t, vb] w fun e w' => e = .returned (.tuple #[.int .i64 (fronts s t a b), .int .i64 (ends s t (fronts s t a b) a b)]) ∧ Below w.heap.size w w' := by
  generalize hPost : (fun (e : Ending) (w' : World) => e = .returned (.tuple #[.int .i64 (fronts s t a b), .int .i64 (ends s t (fronts s t a b) a b)]) ∧ Below w.heap.size w w') = Post
  have e0 := Sec.mk hPost
  clear hPost
  obtain ⟨pa, ca, hv⟩ := own_shape hva
  subst hv
  obtain ⟨pb, cb, hv⟩ := own_shape hvb
  subst hv
  have hva' := Sec.mk hva
  have hvb' := Sec.mk hvb
  have ha' := Sec.mk ha
  have hb' := Sec.mk hb
  clear hva hvb ha hb
  have hmm : (a.length : Int) ≤ (b.length : Int) ∨ (b.length : Int) < (a.length : Int) := by omega
  go_enter Try.func29, Try.ntmps29
  go_upto_region 1 with fail
  go_cut [10] from 13 to 17 (fun mv wx => ∃ m : Nat, mv = .int .i64 m ∧ Sec (m ≤ a.length ∧ m ≤ b.length ∧ (m = a.length ∨ m = b.length)) ∧ wx = w)
  case first =>
    rcases hmm with hmm | hmm
    · go_wp2_with fail
      go_meet
      case rel => exact ⟨a.length, rfl, ⟨by omega⟩, rfl⟩
    · go_wp2_with fail
      go_meet
      case rel => exact ⟨b.length, rfl, ⟨by omega⟩, rfl⟩
  case rest =>
  obtain ⟨m, rfl, hm, hwc⟩ := hcut
  obtain rfl := hwc.symm
  have hm1 := hm.out.1
  have hm2 := hm.out.2.1
  go_upto_block 0 with fail
  go_cut [11] from 18 to 37 (fun fv wx => fv = .int .i64 (fronts s t a b) ∧ Below w.heap.size w wx)
  case first =>
    go_wp2_with fail
    go_loopg [11] a.length (fun n iv wr => ∃ k : Nat, iv = .int .i64 k ∧ Sec (k + n = a.length) ∧ Sec (fronts s t a b = k + fronts s t (a.drop k) (b.drop k)) ∧ Below w.heap.size w wr)
    case atStart => exact ⟨0, rfl, ⟨by omega⟩, ⟨by simp⟩, Below.refl _ _⟩
    case round =>
      obtain ⟨k, rfl, hk, hE, hB⟩ := hrel
      by_cases hlt : k < m
      · have h1 : k < a.length := by omega
        have h2 : k < b.length := by omega
        have hi0 : (k : Int) < (m : Int) := by omega
        have hi1 : (k : Int) < (a.length : Int) := by omega
        have hi2 : (k : Int) < (b.length : Int) := by omega
        have hk0 : (0 : Int) ≤ (k : Int) := by omega
        cases gk with
        | zero => have := hk.out; omega
        | succ n =>
          have g1 := List.getElem?_eq_getElem h1
          have g2 := List.getElem?_eq_getElem h2
          obtain ⟨q1, c1, e1, l1, x0, x1⟩ := span_at hva'.out g1
          obtain ⟨q2, c2, e2, l2, y0, y1⟩ := span_at hvb'.out g2
          injection e1 with e1 _ e1'
          injection e2 with e2 _ e2'
          subst e1 e1' e2 e2'
          obtain ⟨i1, i2⟩ := ha'.out _ (List.getElem_mem h1)
          obtain ⟨i3, i4⟩ := hb'.out _ (List.getElem_mem h2)
          have hF := Sec.mk (fronts_step (s := s) (t := t) g1 g2)
          generalize a[k] = x at *
          generalize b[k] = y at *
          clear g1 g2
          obtain ⟨xa, xb⟩ := x
          obtain ⟨ya, yb⟩ := y
          dsimp only at *
          have hS0 : wr.cell? ⟨q1, k * 2, none⟩ = some (.int .i64 xa) ∧ wr.cell? ⟨q1, k * 2 + 1, none⟩ = some (.int .i64 xb) ∧ wr.cell? ⟨q2, k * 2, none⟩ = some (.int .i64 ya) ∧ wr.cell? ⟨q2, k * 2 + 1, none⟩ = some (.int .i64 yb) :=
            ⟨(World.cell?_of_block (hB.block _ l1)).trans x0, (World.cell?_of_block (hB.block _ l1)).trans x1, (World.cell?_of_block (hB.block _ l2)).trans y0, (World.cell?_of_block (hB.block _ l2)).trans y1⟩
          clear x0 x1 y0 y1
          go_wp2_with fail
          have hS1 : wr.drew.cell? ⟨q1, k * 2, none⟩ = some (.int .i64 xa) ∧ wr.drew.cell? ⟨q1, k * 2 + 1, none⟩ = some (.int .i64 xb) ∧ wr.drew.cell? ⟨q2, k * 2, none⟩ = some (.int .i64 ya) ∧ wr.drew.cell? ⟨q2, k * 2 + 1, none⟩ = some (.int .i64 yb) := hS0
          go_region_held3 (fun w' => w'.cell? ⟨q1, k * 2, none⟩ = some (.int .i64 xa) ∧ w'.cell? ⟨q1, k * 2 + 1, none⟩ = some (.int .i64 xb) ∧ w'.cell? ⟨q2, k * 2, none⟩ = some (.int .i64 ya) ∧ w'.cell? ⟨q2, k * 2 + 1, none⟩ = some (.int .i64 yb))
            (first | with_reducible exact hS4 | with_reducible exact hS3 | with_reducible exact hS1 | fail)
            (first | (go_at_call 44; refine (piece_any s xa xb i1 i2 hs _).mono ?_; rintro e W3 ⟨rfl, hB3⟩; have hS3 := hold4 hS1 hB3) | (go_at_call 44; refine (piece_any t ya yb i3 i4 ht _).mono ?_; rintro e W4 ⟨rfl, hB4⟩; have hS4 := hold4 hS3 hB4))
          have hB5 : Below w.heap.size w W4 := (hB.trans (((Below.refl _ wr).drew).trans hB3 |>.mono hB.size)).trans (hB4.mono (by have := hB3.size; have := hB.size; simp at *; omega))
          clear hS0 hS1 hS3 hS4 hB3 hB4
          go_wp2_with fail
          · have hq : ((s.extract xa xb).toList == (t.extract ya yb).toList) = true := ‹((s.extract xa xb).toList == (t.extract ya yb).toList) = true›
            replace hF := Sec.mk (hF.out.trans (if_pos hq))
            go_roundg n
            case measure => omega
            case rel => exact ⟨k + 1, by rw [show ((k + 1 : Nat) : Int) = (k : Int) + 1 from by omega], ⟨by have := hk.out; omega⟩, ⟨by have := hE.out; have := hF.out; omega⟩, hB5⟩
          · have hq : ((s.extract xa xb).toList == (t.extract ya yb).toList) = false := ‹((s.extract xa xb).toList == (t.extract ya yb).toList) = false›
            replace hF := Sec.mk (hF.out.trans (if_neg (by show ¬ ((s.extract xa xb).toList == (t.extract ya yb).toList) = true; rw [hq]; decide)))
            have hf : Sec (fronts s t a b = k) := ⟨by have := hE.out; have := hF.out; omega⟩
            go_meet
            case rel => exact ⟨by rw [hf.out], hB5⟩
      · have hf : Sec (fronts s t a b = k) := ⟨by have := hE.out; rw [fronts_end (by have := hm.out; omega)] at this; omega⟩
        have hki : ¬ (k : Int) < (m : Int) := by omega
        have hkd : decide (k < m) = false := by simp; omega
        go_wp2_with fail
        go_quiet (fail)
        go_wp2_with fail
        go_meet
        case rel => exact ⟨by rw [hf.out], hB.trans ((below_drewN _ _).mono hB.size)⟩
  case rest =>
    obtain ⟨rfl, hB5⟩ := hcut
    have hkl := fronts_le s t a b
    obtain ⟨k, hf'⟩ : ∃ k, fronts s t a b = k := ⟨_, rfl⟩
    have hf := Sec.mk hf'
    rw [hf'] at hkl ⊢
    clear hf'
    go_wp2_with fail
    have hka : (k : Int) ≤ (a.length : Int) := by omega
    have hkb : (k : Int) ≤ (b.length : Int) := by omega
    have hw1 : IntKind.i64.wrap ((m : Int) - (k : Int)) = (m : Int) - (k : Int) := IntWalk.i64_in _ (by omega)
    go_loopg [12] (a.length - k) (fun n iv wr2 => ∃ e : Nat, iv = .int .i64 e ∧ Sec (k + e + n = a.length) ∧ Sec (ends s t k a b = e + fronts s t ((a.drop k).reverse.drop e) ((b.drop k).reverse.drop e)) ∧ Below w.heap.size w wr2)
    case atStart => exact ⟨0, rfl, ⟨by omega⟩, ⟨by simp [ends]⟩, hB5⟩
    case round =>
      obtain ⟨e, rfl, hk, hE, hB6⟩ := hrel
      by_cases hlt : k + e < m
      · have h1 : k + e < a.length := by omega
        have h2 : k + e < b.length := by omega
        have hi0 : (e : Int) < (m : Int) - (k : Int) := by omega
        obtain ⟨j1, hj1⟩ : ∃ j : Nat, (a.length : Int) - 1 - (e : Int) = (j : Int) := ⟨a.length - 1 - e, by omega⟩
        obtain ⟨j2, hj2⟩ : ∃ j : Nat, (b.length : Int) - 1 - (e : Int) = (j : Int) := ⟨b.length - 1 - e, by omega⟩
        have hi1 : (e : Int) < (a.length : Int) - (k : Int) := by omega
        have hi2 : (e : Int) < (b.length : Int) - (k : Int) := by omega
        have hk0 : (0 : Int) ≤ (j1 : Int) := by omega
        have hk1 : (0 : Int) ≤ (j2 : Int) := by omega
        have hk2 : (j1 : Int) < (a.length : Int) := by omega
        have hk3 : (j2 : Int) < (b.length : Int) := by omega
        have hw3 : IntKind.i64.wrap ((a.length : Int) - 1) = (a.length : Int) - 1 := IntWalk.i64_in _ (by omega)
        have hw4 : IntKind.i64.wrap ((b.length : Int) - 1) = (b.length : Int) - 1 := IntWalk.i64_in _ (by omega)
        have hw5 : IntKind.i64.wrap ((a.length : Int) - 1 - (e : Int)) = (j1 : Int) := (IntWalk.i64_in _ (by omega)).trans hj1
        have hw6 : IntKind.i64.wrap ((b.length : Int) - 1 - (e : Int)) = (j2 : Int) := (IntWalk.i64_in _ (by omega)).trans hj2
        have hw7 : IntKind.i64.wrap (j1 : Int) = (j1 : Int) := IntWalk.i64_in _ (by omega)
        have hw8 : IntKind.i64.wrap (j2 : Int) = (j2 : Int) := IntWalk.i64_in _ (by omega)
        have hq1 : j1 < a.length := by omega
        have hq2 : j2 < b.length := by omega
        have hz1 : a.length - 1 - e = j1 := by omega
        have hz2 : b.length - 1 - e = j2 := by omega
        replace hz1 := Sec.mk hz1
        replace hz2 := Sec.mk hz2
        clear hj1 hj2
        cases gk with
        | zero => have := hk.out; omega
        | succ n =>
          have g1 := List.getElem?_eq_getElem hq1
          have g2 := List.getElem?_eq_getElem hq2
          have r1 : (a.drop k).reverse[e]? = some a[j1] := by rw [back_get (by omega), hz1.out]; exact g1
          have r2 : (b.drop k).reverse[e]? = some b[j2] := by rw [back_get (by omega), hz2.out]; exact g2
          obtain ⟨q1, c1, e1, l1, x0, x1⟩ := span_at hva'.out g1
          obtain ⟨q2, c2, e2, l2, y0, y1⟩ := span_at hvb'.out g2
          injection e1 with e1 _ e1'
          injection e2 with e2 _ e2'
          subst e1 e1' e2 e2'
          obtain ⟨i1, i2⟩ := ha'.out _ (List.getElem_mem hq1)
          obtain ⟨i3, i4⟩ := hb'.out _ (List.getElem_mem hq2)
          have hF := Sec.mk (fronts_step (s := s) (t := t) r1 r2)
          generalize a[j1] = x at *
          generalize b[j2] = y at *
          clear g1 g2 r1 r2
          obtain ⟨xa, xb⟩ := x
          obtain ⟨ya, yb⟩ := y
          dsimp only at *
          have hS1 := hold4 ⟨x0, x1, y0, y1⟩ hB6.drew
          clear x0 x1 y0 y1
          go_wp2_with fail
          go_region_held3 (fun w' => w'.cell? ⟨q1, j1 * 2, none⟩ = some (.int .i64 xa) ∧ w'.cell? ⟨q1, j1 * 2 + 1, none⟩ = some (.int .i64 xb) ∧ w'.cell? ⟨q2, j2 * 2, none⟩ = some (.int .i64 ya) ∧ w'.cell? ⟨q2, j2 * 2 + 1, none⟩ = some (.int .i64 yb))
            (first | with_reducible exact hS4 | with_reducible exact hS3 | with_reducible exact hS1 | fail)
            (first | (go_at_call 44; refine (piece_any s xa xb i1 i2 hs _).mono ?_; rintro e W3 ⟨rfl, hB3⟩; have hS3 := hold4 hS1 hB3) | (go_at_call 44; refine (piece_any t ya yb i3 i4 ht _).mono ?_; rintro e W4 ⟨rfl, hB4⟩; have hS4 := hold4 hS3 hB4))
          have hB7 : Below w.heap.size w W4 := (hB6.drew.trans (hB3.mono hB6.size)).trans (hB4.mono (by have := hB3.size; have := hB6.size; simp at *; omega))
          clear hS1 hS3 hS4 hB3 hB4
          go_wp2_with fail
          · have hq : ((s.extract xa xb).toList == (t.extract ya yb).toList) = true := ‹((s.extract xa xb).toList == (t.extract ya yb).toList) = true›
            replace hF := Sec.mk (hF.out.trans (if_pos hq))
            go_roundg n
            case measure => omega
            case rel => exact ⟨e + 1, by rw [show ((e + 1 : Nat) : Int) = (e : Int) + 1 from by omega], ⟨by have := hk.out; omega⟩, ⟨by have := hE.out; have := hF.out; omega⟩, hB7⟩
          · have hq : ((s.extract xa xb).toList == (t.extract ya yb).toList) = false := ‹((s.extract xa xb).toList == (t.extract ya yb).toList) = false›
            replace hF := Sec.mk (hF.out.trans (if_neg (by show ¬ ((s.extract xa xb).toList == (t.extract ya yb).toList) = true; rw [hq]; decide)))
            have hg : ends s t k a b = e := by have := hE.out; have := hF.out; omega
            rw [← e0.out, hf.out, hg]
            exact ⟨rfl, hB7⟩
      · have hg : ends s t k a b = e := by have := hE.out; rw [fronts_end (by have := hm.out; simp; omega)] at this; omega
        have hki : ¬ (e : Int) < (m : Int) - (k : Int) := by omega
        have hkd : decide ((e : Int) < (m : Int) - (k : Int)) = false := by simp; omega
        go_wp2_with fail
        go_quiet (fail)
        go_wp2_with fail
        rw [← e0.out, hf.out, hg]
        exact ⟨rfl, hB6.trans ((below_drewN _ _).mono hB6.size)⟩
end Go.Proofs.Ytkiijfgoaeiphaa

/- reparse.Changed. -/
set_option linter.unusedVariables false
set_option linter.unusedSimpArgs false
namespace Go.Proofs.Ytkiijfgoaeiphaa
open Go.RowKit
attribute [local go_sem ↓] Go.wp_at_zero Go.wp_at_succ

theorem spans_len (s : ByteArray) : (spans s).length ≤ s.size := Nat.le_trans (by have := spansL_len s (lex s) none; simpa [spans] using this) (lex_len s)
/-- How many pieces are the same at the front, and of the others at the end. -/
def front (s t : ByteArray) : Nat := fronts s t (spans s) (spans t)
def rear (s t : ByteArray) : Nat := ends s t (front s t) (spans s) (spans t)
theorem front_le (s t : ByteArray) : front s t ≤ (spans s).length ∧ front s t ≤ (spans t).length := fronts_le _ _ _ _
theorem rear_le (s t : ByteArray) : front s t + rear s t ≤ (spans s).length ∧ front s t + rear s t ≤ (spans t).length := by
  have h1 := front_le s t
  have h2 := fronts_le s t ((spans s).drop (front s t)).reverse ((spans t).drop (front s t)).reverse
  simp only [List.length_reverse, List.length_drop] at h2
  unfold rear ends
  omega

set_option maxHeartbeats 1000000 in
theorem changed_any (s t : ByteArray) (hs : s.size ≤ 100000000) (ht : t.size ≤ 100000000) (w : World) : Calls Try.prog 18 #[.string s, .string t] w fun e w' =>
    e = .returned (.tuple #[.int .i64 (front s t), .int .i64 (rear s t), .int .i64 ((spans t).length - front s t - rear s t)]) ∧ Below w.heap.size w w' := by
  generalize hPost : (fun (e : Ending) (w' : World) => e = .returned (.tuple #[.int .i64 (front s t), .int .i64 (rear s t), .int .i64 ((spans t).length - front s t - rear s t)]) ∧ Below w.heap.size w w') = Post
  have e0 := Sec.mk hPost
  clear hPost
  have hls := spans_len s
  have hlt := spans_len t
  have hr := rear_le s t
  have hl63 : ((spans t).length : Int) ≤ 100000000 := by omega
  have hw1 : IntKind.i64.wrap (((spans t).length : Int) - (front s t : Int)) = ((spans t).length : Int) - (front s t : Int) := IntWalk.i64_in _ (by omega)
  have hw2 : IntKind.i64.wrap (((spans t).length : Int) - (front s t : Int) - (rear s t : Int)) = ((spans t).length : Int) - (front s t : Int) - (rear s t : Int) := IntWalk.i64_in _ (by omega)
  go_enter Try.func18, Try.ntmps18
  go_wp2_with fail
  refine (pieces_any s hs _).mono ?_
  rintro e W1 ⟨v1, rfl, h1, hB1⟩
  obtain ⟨a1, c1, hv⟩ := own_shape h1
  subst hv
  go_wp2_with fail
  refine (pieces_any t ht _).mono ?_
  rintro e W2 ⟨v2, rfl, h2, hB2⟩
  obtain ⟨a2, c2, hv⟩ := own_shape h2
  subst hv
  have h1' := ownsRow_of_heap h1 fun k hk => hB2.block k (h1.lt k hk).2
  have hB := hB1.trans (hB2.mono hB1.size)
  clear h1 hB1 hB2
  go_wp2_with fail
  refine (kept_any s t hs ht (spans s) (spans t) (spans_ok s) (spans_ok t) _ _ _ _ _ h1' h2 (by omega) (by omega)).mono ?_
  rintro e W3 ⟨rfl, hB3⟩
  have hB4 := hB.trans (hB3.mono hB.size)
  have hf : Sec (fronts s t (spans s) (spans t) = front s t) := ⟨rfl⟩
  have hg : Sec (ends s t (front s t) (spans s) (spans t) = rear s t) := ⟨rfl⟩
  rw [hf.out, hg.out]
  clear h1' h2 hB hB3
  go_wp2_with fail
  refine bodyPost_ret (v := .tuple #[.int .i64 (front s t), .int .i64 (rear s t), .int .i64 ((spans t).length - front s t - rear s t)]) (by simp [results, Try.results18, go_sem]) rfl ?_
  rw [← e0.out]
  exact ⟨rfl, hB4⟩
end Go.Proofs.Ytkiijfgoaeiphaa

/- reparse.Reparse. -/
set_option linter.unusedVariables false
set_option linter.unusedSimpArgs false
namespace Go.Proofs.Ytkiijfgoaeiphaa
open Go.RowKit
attribute [local go_sem ↓] Go.wp_at_zero Go.wp_at_succ

def noDc : Dc := ⟨0, 0, [], ⟨0, 0, 0⟩⟩
/-- A declaration behind a change: kept, or read anew. -/
def pickDc (s t : ByteArray) (ds : List Dc) (i : Nat) (r : Nat × Nat) : Dc :=
  if i < front s t then ⟨r.1, r.2, ((ds[i]?).getD noDc).nodes, ((ds[i]?).getD noDc).flt⟩
  else if (spans t).length - i ≤ rear s t then ⟨r.1, r.2, ((ds[ds.length - ((spans t).length - i)]?).getD noDc).nodes, ((ds[ds.length - ((spans t).length - i)]?).getD noDc).flt⟩
  else declOf t r
def reparse (s : ByteArray) (ds : List Dc) (t : ByteArray) : List Dc := if ds.length = (spans s).length then (spans t).mapIdx (pickDc s t ds) else parse t
/-- Declarations of a size that may be copied. -/
def FewDc (l : List (Dc × Value)) : Prop := ∀ p ∈ l, p.1.nodes.length ≤ 1000000000 ∧ ∀ n ∈ p.1.nodes, n.kids.length ≤ 1000000000
theorem one_few (s : ByteArray) (hs : s.size ≤ 100000000) : (one s).1.length ≤ 4096 ∧ ∀ n ∈ (one s).1, n.kids.length ≤ 1000000000 := by
  have hl := lex_len s
  unfold one
  cases hw : whole ⟨s, lex s⟩ ⟨0, []⟩ with
  | ok u st =>
    have := whole_kids hw
    dsimp only
    split
    · exact ⟨by simp, fun n hn => by simp at hn⟩
    · exact ⟨by simp only; omega, fun n hn => by have := this n hn; omega⟩
  | bad f => dsimp only; split <;> exact ⟨by simp, fun n hn => by simp at hn⟩
  | stuck => exact ⟨by simp, fun n hn => by simp at hn⟩
theorem mapIdx_take {α β : Type} (f : Nat → α → β) (l : List α) {k : Nat} {a : α} (h : l[k]? = some a) : (l.mapIdx f).take (k + 1) = (l.mapIdx f).take k ++ [f k a] := by
  rw [List.take_add_one, List.getElem?_mapIdx, h]; rfl
theorem hold4set {W : World} {g bx j : Nat} {a b c d : Nat} {x y z u v : Value} (h : W.cell? ⟨g, a, none⟩ = some x ∧ W.cell? ⟨g, b, none⟩ = some y ∧ W.cell? ⟨g, c, none⟩ = some z ∧ W.cell? ⟨g, d, none⟩ = some u) (hne : g ≠ bx) : (W.setCell ⟨bx, j, none⟩ v).cell? ⟨g, a, none⟩ = some x ∧ (W.setCell ⟨bx, j, none⟩ v).cell? ⟨g, b, none⟩ = some y ∧ (W.setCell ⟨bx, j, none⟩ v).cell? ⟨g, c, none⟩ = some z ∧ (W.setCell ⟨bx, j, none⟩ v).cell? ⟨g, d, none⟩ = some u := by
  have hk := Below.heap_setCell W ⟨bx, j, none⟩ v g hne
  exact ⟨(World.cell?_of_block hk).trans h.1, (World.cell?_of_block hk).trans h.2.1, (World.cell?_of_block hk).trans h.2.2.1, (World.cell?_of_block hk).trans h.2.2.2⟩
/-- A declaration's variable as it begins. -/
structure DcBox (W : World) (b : Nat) : Prop where
  z2 : W.cell? ⟨b, 2, none⟩ = some (.slice none 0 0)
  z3 : W.cell? ⟨b, 3, none⟩ = some (.int .i64 0)
  z4 : W.cell? ⟨b, 4, none⟩ = some (.int .i64 0)
  z5 : W.cell? ⟨b, 5, none⟩ = some (.int .i64 0)
  fz : ∀ o, W.frozen? ⟨b, o, none⟩ = false
theorem dcBox {W : World} {b : Nat} {x y : Int} (h : W.heap[b]? = some (.cells #[.int .i64 x, .int .i64 y, .slice none 0 0, .int .i64 0, .int .i64 0, .int .i64 0] 37 (0, 0))) : DcBox W b :=
  ⟨by rw [cell_of_row _ _ _ _ _ _ h]; rfl, by rw [cell_of_row _ _ _ _ _ _ h]; rfl, by rw [cell_of_row _ _ _ _ _ _ h]; rfl, by rw [cell_of_row _ _ _ _ _ _ h]; rfl, fun o => frozen_of_row _ _ o _ _ h⟩
abbrev dcSet (W : World) (b : Nat) (nv : Value) (c lo hi : Int) : World := (((W.setCell ⟨b, 2, none⟩ nv).setCell ⟨b, 3, none⟩ (.int .i64 c)).setCell ⟨b, 4, none⟩ (.int .i64 lo)).setCell ⟨b, 5, none⟩ (.int .i64 hi)
theorem dc_done {W : World} {b : Nat} {x y : Int} (h : W.heap[b]? = some (.cells #[.int .i64 x, .int .i64 y, .slice none 0 0, .int .i64 0, .int .i64 0, .int .i64 0] 37 (0, 0))) (nv : Value) (c lo hi : Int) :
    (dcSet W b nv c lo hi).cell? ⟨b, 0, none⟩ = some (.int .i64 x) ∧ (dcSet W b nv c lo hi).cell? ⟨b, 1, none⟩ = some (.int .i64 y) ∧ (dcSet W b nv c lo hi).cell? ⟨b, 2, none⟩ = some nv ∧ (dcSet W b nv c lo hi).cell? ⟨b, 3, none⟩ = some (.int .i64 c) ∧ (dcSet W b nv c lo hi).cell? ⟨b, 4, none⟩ = some (.int .i64 lo) ∧ (dcSet W b nv c lo hi).cell? ⟨b, 5, none⟩ = some (.int .i64 hi) := by
  have h1 := heap_setCell_same _ b 5 _ _ (.int .i64 hi) (heap_setCell_same _ b 4 _ _ (.int .i64 lo) (heap_setCell_same _ b 3 _ _ (.int .i64 c) (heap_setCell_same W b 2 _ _ nv h)))
  refine ⟨?_, ?_, ?_, ?_, ?_, ?_⟩ <;> (rw [cell_of_row _ _ _ _ _ _ h1]; rfl)
theorem dc_other (W : World) (b : Nat) (nv : Value) (c lo hi : Int) (i : Nat) (hi' : i ≠ b) : (dcSet W b nv c lo hi).heap[i]? = W.heap[i]? :=
  (Below.heap_setCell _ _ _ _ hi').trans ((Below.heap_setCell _ _ _ _ hi').trans ((Below.heap_setCell _ _ _ _ hi').trans (Below.heap_setCell _ _ _ _ hi')))
theorem dc_size (W : World) (b : Nat) (nv : Value) (c lo hi : Int) : (dcSet W b nv c lo hi).heap.size = W.heap.size := by simp
theorem dc_below {n : Nat} {w W : World} (h : Below n w W) {b : Nat} (hb : n ≤ b) (nv : Value) (c lo hi : Int) : Below n w (dcSet W b nv c lo hi) :=
  (((h.setCell (p := ⟨b, 2, none⟩) hb nv).setCell (p := ⟨b, 3, none⟩) hb _).setCell (p := ⟨b, 4, none⟩) hb _).setCell (p := ⟨b, 5, none⟩) hb _
def PostReparse (w : World) (ds : List Dc) (n : Nat) (e : Ending) (w' : World) : Prop := ∃ v l, e = .returned (.tuple #[v, .int .i64 n]) ∧ l.map (·.1) = ds ∧ DeclsAt w w' v l

set_option maxRecDepth 100000 in
set_option maxHeartbeats 4000000 in
theorem reparse_any (s t : ByteArray) (hs : s.size ≤ 100000000) (ht : t.size ≤ 100000000) (w0 w : World) (dv : Value) (l : List (Dc × Value)) (hD : DeclsAt w0 w dv l) (hf : FewDc l) (hll : l.length ≤ 100000000) :
    Calls Try.prog 17 #[.string s, dv, .string t] w (PostReparse w (reparse s (l.map (·.1)) t) (front s t + rear s t)) := by
  generalize hPost : PostReparse w (reparse s (l.map (·.1)) t) (front s t + rear s t) = Post
  have e0 := Sec.mk hPost
  have hf' := Sec.mk hf
  clear hPost hf
  have hls := spans_len s
  have hlt := spans_len t
  have hr := rear_le s t
  have hw0 : IntKind.i64.wrap ((front s t : Int) + (rear s t : Int)) = (front s t : Int) + (rear s t : Int) := IntWalk.i64_in _ (by omega)
  obtain ⟨da, dc, hv⟩ := own_shape hD.own
  subst hv
  go_enter Try.func17, Try.ntmps17
  go_wp2_with fail
  refine (pieces_any s hs _).mono ?_
  rintro e W1 ⟨v1, rfl, h1, hB1⟩
  obtain ⟨a1, c1, hv⟩ := own_shape h1
  subst hv
  go_wp2_with fail
  refine (pieces_any t ht _).mono ?_
  rintro e W2 ⟨v2, rfl, h2, hB2⟩
  obtain ⟨a2, c2, hv⟩ := own_shape h2
  subst hv
  have h1' := ownsRow_of_heap h1 fun k hk => hB2.block k (h1.lt k hk).2
  have hB := hB1.trans (hB2.mono hB1.size)
  have h2' := own_mono h2 hB1.size
  clear h1 hB1 hB2 h2
  go_wp2_with fail
  refine (kept_any s t hs ht (spans s) (spans t) (spans_ok s) (spans_ok t) _ _ _ _ _ h1' h2' (by omega) (by omega)).mono ?_
  rintro e W3 ⟨rfl, hB3⟩
  have h2 := ownsRow_of_heap h2' fun k hk => hB3.block k (h2'.lt k hk).2
  have hB4 := hB.trans (hB3.mono hB.size)
  have hfe : Sec (fronts s t (spans s) (spans t) = front s t) := ⟨rfl⟩
  have hge : Sec (ends s t (front s t) (spans s) (spans t) = rear s t) := ⟨rfl⟩
  rw [hfe.out, hge.out]
  clear h1' hB hB3 h2'
  have hD3 := hD.later hB4
  clear hfe hge
  generalize hfn : front s t = fn at *
  generalize hrn : rear s t = rn at *
  have hfn' := Sec.mk hfn
  have hrn' := Sec.mk hrn
  clear hfn hrn
  by_cases hne : l.length = (spans s).length
  rotate_left
  · have hd : ((l.length : Int) == ((spans s).length : Int)) = false := by simp; omega
    have hd' : ¬ (l.length : Int) = ((spans s).length : Int) := by omega
    go_wp2_with fail
    refine (Parse_all t ht _).mono ?_
    rintro e W5 ⟨v, l5, rfl, hl5, hD5⟩
    obtain ⟨va, vc, hv⟩ := own_shape hD5.own
    subst hv
    go_wp2_with fail
    rw [← e0.out]
    refine ⟨_, l5, rfl, ?_, hD5.base hB4⟩
    rw [hl5, reparse, if_neg (by simpa using hne)]
  · have hne' := Sec.mk hne
    have hd : (l.length : Int) = ((spans s).length : Int) := by omega
    clear hne
    go_wp2_with fail
    clear hd
    have hS := Sec.mk h2
    have hD3' := Sec.mk hD3
    have hDl := hD3.own
    clear h2 hD3 hD
    go_loopg [12, 13, 14, 15, 16, 17, 42] (spans t).length (fun n rv _ _ _ _ _ iv wr => ∃ (k : Nat) (m : List (Dc × Value)), iv = .int .i64 k ∧ Sec (k + n = (spans t).length) ∧ DeclsAt W3 wr rv m ∧ Sec (m.map (·.1) = ((spans t).mapIdx (pickDc s t (l.map (·.1)))).take k) ∧ Sec (m.length = k))
    case atStart => exact ⟨0, [], rfl, ⟨by omega⟩, DeclsAt.nil _, ⟨rfl⟩, ⟨rfl⟩⟩
    case round =>
      obtain ⟨k, m, rfl, hk, hM, hE, hl⟩ := hrel
      obtain ⟨ma, mc, hv⟩ := own_shape hM.own
      subst hv
      by_cases hlt : k < (spans t).length
      · have hki : (k : Int) < ((spans t).length : Int) := by omega
        have hk0 : (0 : Int) ≤ (k : Int) := by omega
        cases gk with
        | zero => have := hk.out; omega
        | succ n =>
          have hg := List.getElem?_eq_getElem hlt
          have hmem : (spans t)[k] ∈ spans t := List.getElem_mem hlt
          have hb1 := (spans_ok t _ hmem).1
          have hb2 := (spans_ok t _ hmem).2
          have htk := Sec.mk (mapIdx_take (pickDc s t (l.map (·.1))) (spans t) hg)
          obtain ⟨g, c, e1, hgl, t0, t1⟩ := span_at hS.out hg
          injection e1 with e1 _ e2
          subst e1 e2
          generalize (spans t)[k] = r at *
          clear hg hmem
          obtain ⟨ra, rb⟩ := r
          have hlen : m.length ≤ 1000000000 := by have := hl.out; have := hk.out; omega
          replace t0 := (World.cell?_of_block (hM.below.block _ hgl)).trans t0
          replace t1 := (World.cell?_of_block (hM.below.block _ hgl)).trans t1
          have hra : (ra : Int) ≤ (rb : Int) := by simp only at hb1; omega
          have hrb : (rb : Int) ≤ (t.size : Int) := by simp only at hb2; omega
          simp only at hb1 hb2 t0 t1
          have hw1 : IntKind.i64.wrap (((spans t).length : Int) - (k : Int)) = ((spans t).length : Int) - (k : Int) := IntWalk.i64_in _ (by omega)
          go_upto_block 2 with fail
          obtain ⟨Wb, hWb⟩ : ∃ W, W = (wr.alloc (.cells #[.int .i64 ra, .int .i64 rb] 61)).alloc (.cells #[.int .i64 ra, .int .i64 rb, .slice none 0 0, .int .i64 0, .int .i64 0, .int .i64 0] 37) := ⟨_, rfl⟩
          rw [← hWb]
          have y0 : Wb.cell? ⟨wr.heap.size, 0, none⟩ = some (.int .i64 ra) := by rw [hWb]; simp
          have y1 : Wb.cell? ⟨wr.heap.size, 1, none⟩ = some (.int .i64 rb) := by rw [hWb]; simp
          have hbx : Wb.heap[wr.heap.size + 1]? = some (.cells #[.int .i64 ra, .int .i64 rb, .slice none 0 0, .int .i64 0, .int .i64 0, .int .i64 0] 37 (0, 0)) := by
            rw [hWb]
            have := heap_alloc_new (wr.alloc (.cells #[.int .i64 ra, .int .i64 rb] 61)) (.cells #[.int .i64 ra, .int .i64 rb, .slice none 0 0, .int .i64 0, .int .i64 0, .int .i64 0] 37)
            simpa using this
          have hBb : Below wr.heap.size wr Wb := by
            rw [hWb]
            exact ((Below.refl _ _).alloc (Nat.le_refl _) _).alloc (by simp) _
          have hWs : Wb.heap.size = wr.heap.size + 2 := by rw [hWb]; simp
          clear hWb
          have hWs' := Sec.mk hWs
          clear hWs
          have hbx' := Sec.mk hbx
          clear hbx
          go_cut [17, 42] from 42 to 107 (fun _ iv wx => iv = .int .i64 k ∧ ∃ (nv : Value) (ns : List Nd) (fl : Flt), Sec (pickDc s t (l.map (·.1)) k (ra, rb) = ⟨ra, rb, ns, fl⟩) ∧ Given W3 wx nv ns ∧ Below wr.heap.size wr wx ∧ wr.heap.size + 1 < wx.heap.size ∧ wx.cell? ⟨wr.heap.size + 1, 0, none⟩ = some (.int .i64 ra) ∧ wx.cell? ⟨wr.heap.size + 1, 1, none⟩ = some (.int .i64 rb) ∧ wx.cell? ⟨wr.heap.size + 1, 2, none⟩ = some nv ∧ wx.cell? ⟨wr.heap.size + 1, 3, none⟩ = some (.int .i64 fl.code) ∧ wx.cell? ⟨wr.heap.size + 1, 4, none⟩ = some (.int .i64 fl.lo) ∧ wx.cell? ⟨wr.heap.size + 1, 5, none⟩ = some (.int .i64 fl.hi))
          case first =>
            by_cases h1 : k < fn
            · have h1i : (k : Int) < (fn : Int) := by omega
              have hkl : k < l.length := by have := hne'.out; omega
              have hkli : (k : Int) < (l.length : Int) := by omega
              have hp := List.getElem?_eq_getElem hkl
              have hfp := hf'.out _ (List.getElem_mem hkl)
              have hgv := hD3'.out.given _ (List.getElem_mem hkl)
              have hpk : Sec (pickDc s t (l.map (·.1)) k (ra, rb) = ⟨ra, rb, l[k].1.nodes, l[k].1.flt⟩) := ⟨by
                unfold pickDc
                rw [if_pos (by rw [hfn'.out]; exact h1), List.getElem?_map, hp]; rfl⟩
              generalize l[k] = p at *
              obtain ⟨gd, cd, ed, _, hgdl, _⟩ := own_at hD3'.out.own (by omega)
              have hdc := hD3'.out
              rw [ed] at hdc
              obtain ⟨d0, d1, d2, d3, d4, d5⟩ := hdc.decl hp
              injection ed with ed _ ed2
              subst ed ed2
              obtain ⟨⟨plo, phi, pns, pfl⟩, pv⟩ := p
              obtain ⟨pcode, pflo, pfhi⟩ := pfl
              have hkb : ∀ i, i < W3.heap.size → Wb.heap[i]? = W3.heap[i]? := fun i hi => (hBb.block i (by have := hM.below.size; omega)).trans (hM.below.block i hi)
              replace d2 := (World.cell?_of_block (hkb _ hgdl)).trans d2
              replace d3 := (World.cell?_of_block (hkb _ hgdl)).trans d3
              replace d4 := (World.cell?_of_block (hkb _ hgdl)).trans d4
              replace d5 := (World.cell?_of_block (hkb _ hgdl)).trans d5
              simp only at d2 d3 d4 d5 hfp hgv hpk
              obtain ⟨pcs, hg1, hg2⟩ := hgv.keep (w0 := w0) (W' := Wb.drew) (Nat.le_refl _) (fun i _ hi => hkb i hi)
              obtain ⟨hq1, hq2⟩ := hfp
              obtain ⟨pa, pc, hv⟩ := own_shape hg1
              subst hv
              have hS1 : Wb.drew.cell? ⟨gd, k * 6 + 2, none⟩ = some (.slice pa pns.length pc) ∧ Wb.drew.cell? ⟨gd, k * 6 + 3, none⟩ = some (.int .i64 pcode) ∧ Wb.drew.cell? ⟨gd, k * 6 + 4, none⟩ = some (.int .i64 pflo) ∧ Wb.drew.cell? ⟨gd, k * 6 + 5, none⟩ = some (.int .i64 pfhi) := ⟨d2, d3, d4, d5⟩
              clear d0 d1 d2 d3 d4 d5 hdc hgv y0 y1 t0 t1
              have hpk' := hpk
              clear hpk
              have hgb : gd ≠ wr.heap.size + 1 := by have := hM.below.size; omega
              go_wp2_with fail
              go_region_held3 (fun w' => w'.cell? ⟨gd, k * 6 + 2, none⟩ = some (.slice pa pns.length pc) ∧ w'.cell? ⟨gd, k * 6 + 3, none⟩ = some (.int .i64 pcode) ∧ w'.cell? ⟨gd, k * 6 + 4, none⟩ = some (.int .i64 pflo) ∧ w'.cell? ⟨gd, k * 6 + 5, none⟩ = some (.int .i64 pfhi))
                (first | with_reducible exact hS7 | with_reducible exact hS4 | with_reducible exact hS3 | with_reducible exact hS1 | fail)
                (first | (go_at_call 30; refine (copied_any _ _ _ pns pcs _ hg1 hg2 hq1 hq2).mono ?_; rintro e W5 ⟨v5, rfl, hG5, hB5⟩; have hS3 := hold4 hS1 hB5; have hb5 := (hB5.block (wr.heap.size + 1) (by have := hWs'.out; simp; omega)).trans hbx'.out; have hdb := dcBox hb5; have z2 := hdb.z2; have z3 := hdb.z3; have z4 := hdb.z4; have z5 := hdb.z5; have fz := hdb.fz; have hb5' := Sec.mk hb5; clear hdb hb5; obtain ⟨a5, c5, hv5⟩ := hG5.shape; subst hv5; have hS4 := hold4set (bx := wr.heap.size + 1) (j := 2) (v := .slice a5 pns.length c5) hS3 hgb; have hS5 := hold4set (bx := wr.heap.size + 1) (j := 3) (v := .int .i64 pcode) hS4 hgb; have hS6 := hold4set (bx := wr.heap.size + 1) (j := 4) (v := .int .i64 pflo) hS5 hgb; have hS7 := hold4set (bx := wr.heap.size + 1) (j := 5) (v := .int .i64 pfhi) hS6 hgb))
              clear hS1 hS3 hS4 hS5 hS6 hS7 z2 z3 z4 z5 fz
              go_wp2_with fail
              go_meet
              case rel =>
                have hBB : Below wr.heap.size wr W5 := hBb.drew.trans (hB5.mono (by have := hWs'.out; simp; omega))
                have hsz5 := hB5.size
                obtain ⟨x0, x1, x2, x3, x4, x5⟩ := dc_done hb5'.out (.slice a5 pns.length c5) pcode pflo pfhi
                exact ⟨rfl, _, _, _, hpk', hG5.keep (by have := hWs'.out; have := hM.below.size; simp; omega) (fun i hi _ => dc_other _ _ _ _ _ _ i (by have := hWs'.out; simp at hi; omega)), dc_below hBB (by omega) _ _ _ _, by rw [dc_size]; have := hWs'.out; simp at hsz5; omega, x0, x1, x2, x3, x4, x5⟩
            by_cases h2 : (spans t).length - k ≤ rn
            · have h2i : ((spans t).length : Int) - (k : Int) ≤ (rn : Int) := by omega
              have h1n : ¬ (k : Int) < (fn : Int) := by omega
              obtain ⟨j, hj⟩ : ∃ j, l.length - ((spans t).length - k) = j := ⟨_, rfl⟩
              have hne2 := hne'.out
              have hwj : IntKind.i64.wrap ((l.length : Int) - (((spans t).length : Int) - (k : Int))) = (j : Int) := (IntWalk.i64_in _ (by omega)).trans (by omega)
              have hkl : j < l.length := by omega
              have hkli : (j : Int) < (l.length : Int) := by omega
              have hj0 : (0 : Int) ≤ (j : Int) := by omega
              have hwj2 : IntKind.i64.wrap (j : Int) = (j : Int) := IntWalk.i64_in _ (by omega)
              have hj' := Sec.mk hj
              clear hj hne2
              have hp := List.getElem?_eq_getElem hkl
              have hfp := hf'.out _ (List.getElem_mem hkl)
              have hgv := hD3'.out.given _ (List.getElem_mem hkl)
              have hpk : Sec (pickDc s t (l.map (·.1)) k (ra, rb) = ⟨ra, rb, l[j].1.nodes, l[j].1.flt⟩) := ⟨by
                unfold pickDc
                rw [if_neg (by rw [hfn'.out]; exact h1), if_pos (by rw [hrn'.out]; exact h2), List.length_map, hj'.out, List.getElem?_map, hp]; rfl⟩
              generalize l[j] = p at *
              obtain ⟨gd, cd, ed, _, hgdl, _⟩ := own_at hD3'.out.own (by omega)
              have hdc := hD3'.out
              rw [ed] at hdc
              obtain ⟨d0, d1, d2, d3, d4, d5⟩ := hdc.decl hp
              injection ed with ed _ ed2
              subst ed ed2
              obtain ⟨⟨plo, phi, pns, pfl⟩, pv⟩ := p
              obtain ⟨pcode, pflo, pfhi⟩ := pfl
              have hkb : ∀ i, i < W3.heap.size → Wb.heap[i]? = W3.heap[i]? := fun i hi => (hBb.block i (by have := hM.below.size; omega)).trans (hM.below.block i hi)
              replace d0 := (World.cell?_of_block (hkb _ hgdl)).trans d0
              replace d1 := (World.cell?_of_block (hkb _ hgdl)).trans d1
              replace d2 := (World.cell?_of_block (hkb _ hgdl)).trans d2
              replace d3 := (World.cell?_of_block (hkb _ hgdl)).trans d3
              replace d4 := (World.cell?_of_block (hkb _ hgdl)).trans d4
              replace d5 := (World.cell?_of_block (hkb _ hgdl)).trans d5
              simp only at d0 d1 d2 d3 d4 d5 hfp hgv hpk
              obtain ⟨pa, pc, hv⟩ := hgv.shape
              subst hv
              obtain ⟨hq1, hq2⟩ := hfp
              obtain ⟨Wc, hWc⟩ : ∃ W, W = Wb.alloc (.cells #[.int .i64 plo, .int .i64 phi, .slice pa pns.length pc, .int .i64 pcode, .int .i64 pflo, .int .i64 pfhi] 37) := ⟨_, rfl⟩
              have hS1 : Wc.drew.cell? ⟨Wb.heap.size, 2, none⟩ = some (.slice pa pns.length pc) ∧ Wc.drew.cell? ⟨Wb.heap.size, 3, none⟩ = some (.int .i64 pcode) ∧ Wc.drew.cell? ⟨Wb.heap.size, 4, none⟩ = some (.int .i64 pflo) ∧ Wc.drew.cell? ⟨Wb.heap.size, 5, none⟩ = some (.int .i64 pfhi) := by
                rw [hWc]; exact ⟨by simp, by simp, by simp, by simp⟩
              have hBc : Below Wb.heap.size Wb Wc := by rw [hWc]; exact (Below.refl _ _).alloc (Nat.le_refl _) _
              have hWcs : Wc.heap.size = Wb.heap.size + 1 := by rw [hWc]; simp
              obtain ⟨pcs, hg1, hg2⟩ := hgv.keep (w0 := w0) (W' := Wc.drew) (Nat.le_refl _) (fun i _ hi => (hBc.block i (by have := hWs'.out; have := hM.below.size; omega)).trans (hkb i hi))
              have hpk' := hpk
              clear hpk hdc hgv y0 y1 t0 t1
              go_wp2_with fail
              rw [← hWc]
              clear hWc d0 d1 d2 d3 d4 d5
              have hWcs' := Sec.mk hWcs
              clear hWcs
              have hgb : Wb.heap.size ≠ wr.heap.size + 1 := by have := hWs'.out; omega
              go_region_held3 (fun w' => w'.cell? ⟨Wb.heap.size, 2, none⟩ = some (.slice pa pns.length pc) ∧ w'.cell? ⟨Wb.heap.size, 3, none⟩ = some (.int .i64 pcode) ∧ w'.cell? ⟨Wb.heap.size, 4, none⟩ = some (.int .i64 pflo) ∧ w'.cell? ⟨Wb.heap.size, 5, none⟩ = some (.int .i64 pfhi))
                (first | with_reducible exact hS7 | with_reducible exact hS4 | with_reducible exact hS3 | with_reducible exact hS1 | fail)
                (first | (go_at_call 30; refine (copied_any _ _ _ pns pcs _ hg1 hg2 hq1 hq2).mono ?_; rintro e W5 ⟨v5, rfl, hG5, hB5⟩; have hS3 := hold4 hS1 hB5; have hb5 := (hB5.block (wr.heap.size + 1) (by have := hWs'.out; have := hWcs'.out; simp; omega)).trans ((hBc.block (wr.heap.size + 1) (by have := hWs'.out; omega)).trans hbx'.out); have hdb := dcBox hb5; have z2 := hdb.z2; have z3 := hdb.z3; have z4 := hdb.z4; have z5 := hdb.z5; have fz := hdb.fz; have hb5' := Sec.mk hb5; clear hdb hb5; obtain ⟨a5, c5, hv5⟩ := hG5.shape; subst hv5; have hS4 := hold4set (bx := wr.heap.size + 1) (j := 2) (v := .slice a5 pns.length c5) hS3 hgb; have hS5 := hold4set (bx := wr.heap.size + 1) (j := 3) (v := .int .i64 pcode) hS4 hgb; have hS6 := hold4set (bx := wr.heap.size + 1) (j := 4) (v := .int .i64 pflo) hS5 hgb; have hS7 := hold4set (bx := wr.heap.size + 1) (j := 5) (v := .int .i64 pfhi) hS6 hgb))
              clear hS1 hS3 hS4 hS5 hS6 hS7 z2 z3 z4 z5 fz
              go_wp2_with fail
              go_meet
              case rel =>
                have hBB : Below wr.heap.size wr W5 := (hBb.trans (hBc.mono (by have := hWs'.out; omega))).drew.trans (hB5.mono (by have := hWs'.out; have := hWcs'.out; simp; omega))
                have hsz5 := hB5.size
                obtain ⟨x0, x1, x2, x3, x4, x5⟩ := dc_done hb5'.out (.slice a5 pns.length c5) pcode pflo pfhi
                exact ⟨rfl, _, _, _, hpk', hG5.keep (by have := hWs'.out; have := hWcs'.out; have := hM.below.size; simp; omega) (fun i hi _ => dc_other _ _ _ _ _ _ i (by have := hWs'.out; have := hWcs'.out; simp at hi; omega)), dc_below hBB (by omega) _ _ _ _, by rw [dc_size]; have := hWs'.out; have := hWcs'.out; simp at hsz5; omega, x0, x1, x2, x3, x4, x5⟩
            · have h2i : ¬ ((spans t).length : Int) - (k : Int) ≤ (rn : Int) := by omega
              have h1n : ¬ (k : Int) < (fn : Int) := by omega
              have hpk : Sec (pickDc s t (l.map (·.1)) k (ra, rb) = ⟨ra, rb, (one (t.extract ra rb)).1, (one (t.extract ra rb)).2⟩) := ⟨by
                unfold pickDc
                rw [if_neg (by rw [hfn'.out]; exact h1), if_neg (by rw [hrn'.out]; exact h2)]; rfl⟩
              clear t0 t1
              go_wp2_with fail
              refine (One_all (t.extract ra rb) (by rw [ByteArray.size_extract]; omega) _).mono ?_
              rintro e W5 ⟨hB5, nv, rfl, hG5⟩
              generalize one (t.extract ra rb) = on at hG5 hpk
              obtain ⟨ns, ⟨pcode, pflo, pfhi⟩⟩ := on
              dsimp only at hG5 hpk
              obtain ⟨a5, c5, hv5⟩ := hG5.shape
              subst hv5
              have hb5 := (hB5.block (wr.heap.size + 1) (by have := hWs'.out; omega)).trans hbx'.out
              have hdb := dcBox hb5
              have z2 := hdb.z2
              have z3 := hdb.z3
              have z4 := hdb.z4
              have z5 := hdb.z5
              have fz := hdb.fz
              have hb5' := Sec.mk hb5
              clear hdb hb5
              go_wp2_with fail
              go_meet
              case rel =>
                have hBB : Below wr.heap.size wr W5 := hBb.trans (hB5.mono (by have := hWs'.out; omega))
                have hsz5 := hB5.size
                obtain ⟨x0, x1, x2, x3, x4, x5⟩ := dc_done hb5'.out (.slice a5 ns.length c5) pcode pflo pfhi
                exact ⟨rfl, _, _, ⟨pcode, pflo, pfhi⟩, hpk, hG5.keep (by have := hWs'.out; have := hM.below.size; omega) (fun i hi _ => dc_other _ _ _ _ _ _ i (by have := hWs'.out; omega)), dc_below hBB (by omega) _ _ _ _, by rw [dc_size]; have := hWs'.out; omega, x0, x1, x2, x3, x4, x5⟩
          case rest =>
            obtain ⟨rfl, nv, ns, fl, hpk, hG, hBx, hxl, x0, x1, x2, x3, x4, x5⟩ := hcut
            obtain ⟨na, nc, hv⟩ := hG.shape
            subst hv
            have hM4 := hM.later hBx
            have hG4 := hG
            go_wp2_with (at_builtin; refine push_flat Try.underlying33 infoDecl rfl (by omega) (by omega) rfl _ _ rfl #[.int .i64 ra, .int .i64 rb, .slice na ns.length nc, .int .i64 fl.code, .int .i64 fl.lo, .int .i64 fl.hi] rfl (by simp [Value.oneCell']) (by rfl) (by rfl) (by simp) hM4.own (hM4.below.size) hlen ?_; intro g2 cap W5 hown5 hap5 _)
            have hM5 := hM4.push (⟨ra, rb, ns, fl⟩, _) hG4 hown5 hap5
            go_roundg n
            case measure => omega
            case rel => exact ⟨k + 1, _, by rw [show ((k + 1 : Nat) : Int) = (k : Int) + 1 from by omega], ⟨by have := hk.out; omega⟩, by simpa using hM5, ⟨by rw [List.map_append, hE.out, htk.out, hpk.out]; rfl⟩, ⟨by have := hl.out; simp; omega⟩⟩
      · have hki : ¬ (k : Int) < ((spans t).length : Int) := by omega
        go_wp2_with fail
        rw [← e0.out]
        refine ⟨_, m, rfl, ?_, hM.base hB4⟩
        rw [hE.out, List.take_of_length_le (by simp; omega), reparse, if_pos (by simpa using hne'.out)]
end Go.Proofs.Ytkiijfgoaeiphaa

/- parlancelaw11's alive. -/
set_option linter.unusedVariables false
set_option linter.unusedSimpArgs false
namespace Go.Proofs.Ytkiijfgoaeiphaa
open Go.RowKit
attribute [local go_sem ↓] Go.wp_at_zero Go.wp_at_succ

theorem parse_few {s : ByteArray} (hs : s.size ≤ 100000000) {l : List (Dc × Value)} (h : l.map (·.1) = parse s) : FewDc l := by
  intro p hp
  have hm : p.1 ∈ parse s := by rw [← h]; exact List.mem_map_of_mem hp
  obtain ⟨r, _, he⟩ := List.mem_map.1 hm
  have := one_few (subtext s r) (Nat.le_trans (sub_size s r) hs)
  rw [← he]
  exact ⟨by show (one (subtext s r)).1.length ≤ _; omega, this.2⟩
theorem parse_len (s : ByteArray) : (parse s).length = (spans s).length := by simp [parse]
def txA : ByteArray := ⟨#[108, 101, 116, 32, 97, 32, 61, 32, 49, 32, 59, 59, 32, 108, 101, 116, 32, 98, 32, 61, 32, 50]⟩
def txB : ByteArray := ⟨#[108, 101, 116, 32, 97, 32, 61, 32, 49, 32, 59, 59, 32, 59, 59, 32, 108, 101, 116, 32, 99, 32, 61, 32, 51]⟩
def txC : ByteArray := ⟨#[108, 101, 116, 32, 97, 32, 61, 32, 49]⟩
def txD : ByteArray := ⟨#[108, 101, 116, 32, 97, 32, 61, 32, 49, 32, 59, 59, 32, 108, 101, 116, 32, 98, 32, 61, 32, 41]⟩
theorem al_1 : (front txA txB, rear txA txB, (spans txB).length) = (1, 0, 2) := by kernel_rfl
theorem al_2 : (front txC txD, rear txC txD) = (1, 0) := by kernel_rfl
theorem al_3 : (reparse txC (parse txC) txD).map (fun d => (d.nodes.length, d.flt.code)) = [(3, 0), (0, 1)] := by kernel_rfl

set_option maxHeartbeats 2000000 in
theorem alive11_any (w : World) : Calls Try.prog 16 #[] w fun e w' => e = .returned (.bool true) ∧ Below w.heap.size w w' := by
  generalize hPost : (fun (e : Ending) (w' : World) => e = .returned (.bool true) ∧ Below w.heap.size w w') = Post
  have e0 := Sec.mk hPost
  clear hPost
  have a1 := al_1
  have a2 := al_2
  simp only [Prod.mk.injEq] at a1 a2
  obtain ⟨a11, a12, a13⟩ := a1
  obtain ⟨a21, a22⟩ := a2
  go_enter Try.func16, Try.ntmps16
  go_wp2_with fail
  refine (changed_any txA txB (by decide) (by decide) _).mono ?_
  rintro e W1 ⟨rfl, hB1⟩
  rw [a11, a12, a13]
  go_wp2_with fail
  refine (Parse_all txC (by decide) _).mono ?_
  rintro e W2 ⟨v, l, rfl, hl, hD⟩
  obtain ⟨va, vc, hv⟩ := own_shape hD.own
  subst hv
  have hfew := parse_few (by decide) hl
  have hlen : l.length = (parse txC).length := by rw [← hl, List.length_map]
  have hl1 : l.length ≤ 100000000 := by
    rw [hlen, parse_len]
    have := spans_len txC
    have : txC.size ≤ 1000 := by decide
    omega
  have hlen' := Sec.mk hlen
  clear hlen
  have hB2 := hB1.trans (hD.below.mono hB1.size)
  go_wp2_with fail
  refine (reparse_any txC txD (by decide) (by decide) _ _ _ l hD hfew hl1).mono ?_
  rintro e W3 ⟨v3, l3, rfl, hl3, hD3⟩
  rw [a21, a22]
  have hp := al_3
  rw [← hl, ← hl3] at hp
  have hB3 := hB2.trans (hD3.below.mono hB2.size)
  clear hD hfew hl hB1 hB2 a11 a12 a13 a21 a22
  rcases l3 with _ | ⟨p0, _ | ⟨p1, _ | ⟨p2, l3⟩⟩⟩
  · simp at hp
  · simp at hp
  rotate_left
  · simp at hp
  simp only [List.map_cons, List.map_nil, List.cons.injEq, Prod.mk.injEq, and_true] at hp
  obtain ⟨⟨h3, _⟩, ⟨_, q1⟩⟩ := hp
  obtain ⟨g, cap, hv, _, _, _⟩ := own_at hD3.own (by simp)
  subst hv
  obtain ⟨x0, x1, x2, x3, x4, x5⟩ := hD3.decl (j := 0) rfl
  obtain ⟨b0, b1, b2, b3, b4, b5⟩ := hD3.decl (j := 1) rfl
  obtain ⟨gn, capn, hn, _, _, hnode⟩ := (hD3.given p0 (by simp)).node (by rw [h3]; decide)
  rw [hn, h3] at x2
  rw [q1] at b3
  clear hD3 hl3 hnode hn h3 q1 x0 x1 x3 x4 x5 b0 b1 b2 b4 b5
  simp only [Nat.zero_mul, Nat.zero_add, List.length_cons, List.length_nil] at *
  go_wp2_with fail
  rw [← e0.out]
  exact ⟨rfl, hB3⟩
end Go.Proofs.Ytkiijfgoaeiphaa
