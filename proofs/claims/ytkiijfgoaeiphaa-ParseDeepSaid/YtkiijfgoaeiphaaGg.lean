/- CopyBytes; ParseDeep. -/
import Derived.Test.YtkiijfgoaeiphaaGf
import Derived.Lib.SlBytesRow
import Derived.Lib.SlBytesConst
import Derived.ProofKit
import Derived.OpenShut
set_option linter.unusedVariables false
set_option linter.unusedSimpArgs false
namespace Go.Proofs.Ytkiijfgoaeiphaa
open Go.RowKit
attribute [local go_sem ↓] Go.wp_at_zero Go.wp_at_succ

theorem infoU8 : (Try.prog.info? 5).map (fun i => (i.zero, i.size, i.bytes)) = some (some (.int .u8 0), 1, 1) := by kernel_rfl
def bcells (l : List UInt8) : List Value := l.map fun c => .int .u8 c.toNat
theorem bcells_len (l : List UInt8) : (bcells l).length = l.length * 1 := by simp [bcells]
theorem bcells_one (l : List UInt8) : ∀ u ∈ bcells l, u.oneCell' = true := by
  intro u hu
  simp only [bcells, List.mem_map] at hu
  obtain ⟨c, _, rfl⟩ := hu
  rfl
/-- An own row is read. -/
theorem own_row {W : World} {base : Nat} {e : TypeId} {size : Nat} {v : Value} {n : Nat} {xs : List Value} (h : W.ownsRow base e size v n xs) {b c : Nat} (hv : v = .slice (some ⟨b, 0, none⟩) n c) : RowAt W v n xs := by
  subst hv
  have hl := h.lt b rfl
  refine ⟨b, c, rfl, hl.2, fun j u hu => ?_⟩
  have := h.cells (g := b) rfl j u hu
  rwa [show (⟨b, 0, none⟩ : Addr).add j = ⟨b, j, none⟩ by simp only [Addr.add, Nat.zero_add]; split <;> simp_all] at this
/-- A row in a new block. -/
theorem own_new (W : World) (base : Nat) (hb : base ≤ W.heap.size) (cs : Array Value) (e : TypeId) (size n : Nat) (hs : cs.size = n * size) (hn : n ≤ maxLen) : (W.alloc (.cells cs e)).ownsRow base e size (.slice (some ⟨W.heap.size, 0, none⟩) n n) n cs.toList :=
  ⟨by simp [hs], .inr ⟨W.heap.size, n, cs, rfl, hb, heap_alloc_new W _, Nat.le_refl _, hn, hs, by rw [List.take_of_length_le (by simp [hs])]⟩⟩

theorem copyBytes_any (sv : Value) (m : Nat) (ys : List UInt8) (w : World) (hr : RowAt w sv m (bcells ys)) (hm : ys.length = m) (hl : m ≤ 1000000) :
    Calls Try.prog 15 #[sv] w fun e w' => ∃ v b c, e = .returned v ∧ v = .slice (some ⟨b, 0, none⟩) m c ∧ w'.ownsRow w.heap.size 5 1 v m (bcells ys) ∧ Below w.heap.size w w' := by
  generalize hPost : (fun (e : Ending) (w' : World) => ∃ v b c, e = .returned v ∧ v = .slice (some ⟨b, 0, none⟩) m c ∧ w'.ownsRow w.heap.size 5 1 v m (bcells ys) ∧ Below w.heap.size w w') = Post
  have e0 := Sec.mk hPost
  clear hPost
  go_enter Try.func15, Try.ntmps15
  have hn := own_new w w.heap.size (Nat.le_refl _) #[] 5 1 0 rfl (by simp)
  have hr' : RowAt (w.alloc (.cells #[] 5)) sv m (bcells ys) := by
    obtain ⟨b, c, e, hb, hc⟩ := hr
    exact ⟨b, c, e, by simp; omega, fun j u hu => (World.cell?_alloc_lt _ _ _ hb).trans (hc j u hu)⟩
  obtain ⟨sb, sc, hsv, _⟩ := hr
  subst hsv
  go_wp2_with (at_builtin; refine push_many Try.underlying41 infoU8 rfl (by omega) (by omega) rfl _ _ rfl (by rfl) (by rfl) hn hr' (by rw [bcells_len, hm]) (bcells_one _) (by simp) (by omega) ?_; intro v' W1 hown hap hat)
  rw [← e0.out]
  have hap2 : Apart (some w.heap.size) (w.alloc (.cells #[] 5)) W1 := hap
  have hbel : Below w.heap.size w W1 := hap2.below ((Below.refl _ w).alloc (Nat.le_refl _) _) (by simp) (fun k hk => by injection hk with hk; omega)
  rcases hown.2 with ⟨h1, _⟩ | ⟨g, cap, cur, h1, _⟩
  · rw [h1] at hat
    rcases hat with hat | hat <;> simp [Value.ownBlock] at hat
  · simp only [Nat.zero_add, List.nil_append] at hown h1
    exact ⟨v', g, cap, rfl, h1, by simpa using hown, hbel⟩
/-- The text of the law. -/
def deepText (n : Nat) : ByteArray := ⟨(([108, 101, 116, 32, 120, 32, 61, 32] : List UInt8) ++ List.replicate n 40 ++ [49] ++ List.replicate n 41).toArray⟩
def deepOk (n : Nat) : Bool :=
  if 64 < n then (one (deepText n)).1.length == 0 && decide ((one (deepText n)).2 = ⟨2, 73, 74⟩)
  else decide ((one (deepText n)).2 = ⟨0, 0, 0⟩) && (one (deepText n)).1.length == 3
end Go.Proofs.Ytkiijfgoaeiphaa

/- A row of bytes that grows: a literal's row at first, one's own later. -/
set_option linter.unusedVariables false
set_option linter.unusedSimpArgs false
namespace Go.Proofs.Ytkiijfgoaeiphaa
open Go.RowKit

/-- A row of bytes: one's own from 'base' on, or one that is full and only read. -/
structure BRow (W : World) (base : Nat) (v : Value) (l : List UInt8) : Prop where
  shape : ∃ g c, v = .slice (some ⟨g, 0, none⟩) l.length c ∧ base ≤ g ∧ g < W.heap.size ∧ ∀ j u, (bcells l)[j]? = some u → W.cell? ⟨g, j, none⟩ = some u
  own : W.ownsRow base 5 1 v l.length (bcells l) ∨ ∃ g, v = .slice (some ⟨g, 0, none⟩) l.length l.length
theorem BRow.row {W : World} {base : Nat} {v : Value} {l : List UInt8} (h : BRow W base v l) : RowAt W v l.length (bcells l) := by
  obtain ⟨g, c, e, _, hl, hc⟩ := h.shape
  exact ⟨g, c, e, hl, hc⟩
theorem BRow.ofOwn {W : World} {base : Nat} {v : Value} {l : List UInt8} (h : W.ownsRow base 5 1 v l.length (bcells l)) {g c : Nat} (hv : v = .slice (some ⟨g, 0, none⟩) l.length c) : BRow W base v l := by
  have hl := h.lt g (by rw [hv]; rfl)
  obtain ⟨b, c', e, _, hc⟩ := own_row h hv
  rw [hv] at e
  injection e with e
  injection e with e
  injection e with e
  subst e
  exact ⟨⟨g, c, hv, hl.1, hl.2, hc⟩, .inl h⟩
/-- What leaves the row's block as it is leaves the row. -/
theorem BRow.keep {W W' : World} {base : Nat} {v : Value} {l : List UInt8} (h : BRow W base v l) (hs : W.heap.size ≤ W'.heap.size) (hk : ∀ g, v.ownBlock = some g → W'.heap[g]? = W.heap[g]?) : BRow W' base v l := by
  obtain ⟨g, c, e, h1, h2, h3⟩ := h.shape
  have hg := hk g (by rw [e]; rfl)
  exact ⟨⟨g, c, e, h1, by omega, fun j u hu => (World.cell?_of_block hg).trans (h3 j u hu)⟩, h.own.imp (fun ho => ownsRow_of_heap ho hk) id⟩
theorem push_byte {ops : Array Oper} {rest : List Oper} {o : Oper} {a : Act} {Q : Exit → Act → World → Prop} {base b : Nat} {W : World} {v : Value} {l : List UInt8}
    (hgd : o.guard = none) (s z : Operand) (ho : o.op = .call { callee := .builtin .append, args := #[s, z], argTypes := #[41, 41] }) (y : UInt8)
    (hs : a.eval s = v) (hz : a.eval z = .slice (some ⟨b, 0, none⟩) 1 1) (hb : b = W.heap.size) (hK : BRow W base v l) (hbase : base ≤ W.heap.size) (hl : l.length ≤ 1000000)
    (h : ∀ v' w', BRow w' base v' (l ++ [y]) → w'.ownsRow base 5 1 v' (l ++ [y]).length (bcells (l ++ [y])) → (∃ g, v'.ownBlock = some g ∧ (v.ownBlock = some g ∨ W.heap.size ≤ g)) → Apart v.ownBlock W w' → wpList Try.prog ops Q rest (a.put o.dst v') w') :
    wpList Try.prog ops Q (o :: rest) a (W.alloc (.cells #[.int .u8 y.toNat] 5)) := by
  rcases hK.own with hown | ⟨g, hv⟩
  · refine push_flat Try.underlying41 infoU8 rfl (by omega) (by omega) hgd s z ho #[.int .u8 y.toNat] rfl (by simp [Value.oneCell']) hs hz hb hown hbase (by omega) ?_
    intro g cap w' hown' hap hat
    have e : (l ++ [y]).length = l.length + 1 := by simp
    have ho2 : w'.ownsRow base 5 1 (.slice (some ⟨g, 0, none⟩) (l.length + 1) cap) (l ++ [y]).length (bcells (l ++ [y])) := by rw [e]; simpa [bcells] using hown'
    refine h _ w' (BRow.ofOwn (g := g) (c := cap) ho2 (by rw [e])) ho2 ⟨g, rfl, hat⟩ hap
  · subst hb
    obtain ⟨i0, hi0, h0, h1, h2⟩ := info_parts infoU8
    obtain ⟨g', c', e, _, hlt, hc⟩ := hK.shape
    rw [hv] at e
    injection e with e
    injection e with e
    injection e with e
    subst e
    refine wpList_append_grows (W.alloc (.cells #[.int .u8 y.toNat] 5)) hgd s z 41 ho 5 i0 _ 1 1 Try.underlying41 hi0 h0 h1 h2 rfl (by omega) (some ⟨g, 0, none⟩) l.length l.length (bcells l) (by rw [hs, hv]) (fun e => by cases e) (bcells_len l)
      (fun b hb j u hu => by
        injection hb with hb
        subst hb
        have : (W.alloc (Obj.cells #[.int .u8 y.toNat] 5)).cell? ⟨g, j, none⟩ = some u := (World.cell?_alloc_lt _ _ _ hlt).trans (hc j u hu)
        rwa [show (⟨g, 0, none⟩ : Addr).add j = ⟨g, j, none⟩ by simp only [Addr.add, Nat.zero_add]; split <;> simp_all])
      ⟨W.heap.size, 0, none⟩ 1 1 [.int .u8 y.toNat] hz rfl (World.news_of_block (cs := #[.int .u8 y.toNat]) (t := 5) (fr := (0, 0)) (heap_alloc_new W _)) (by simp [Value.oneCell']) (by omega) (by unfold maxLen; omega) (by omega) ?_
    intro v' w' hown' hgr
    have e : (l ++ [y]).length = l.length + 1 := by simp
    have hsz : (W.alloc (.cells #[.int .u8 y.toNat] 5)).heap.size = W.heap.size + 1 := by simp
    rcases hown'.2 with ⟨_, h0'⟩ | ⟨g2, cap, cur, hv2, hb2, _⟩
    · omega
    · have ho2 : w'.ownsRow base 5 1 v' (l ++ [y]).length (bcells (l ++ [y])) := own_mono (by rw [e]; simpa [bcells] using hown') (show base ≤ (W.alloc (Obj.cells #[.int .u8 y.toNat] 5)).heap.size by omega)
      refine h v' w' (BRow.ofOwn (g := g2) (c := cap) ho2 (by rw [hv2, e])) ho2 ⟨g2, by rw [hv2]; rfl, .inr (by omega)⟩ ⟨hgr.os, hgr.tape, hgr.output, by have := hgr.size; omega, fun i hi _ => (hgr.block i (by omega) (by simp)).trans (Below.heap_alloc _ _ _ hi)⟩
end Go.Proofs.Ytkiijfgoaeiphaa

/- ParseDeep's texts, each computed. -/
namespace Go.Proofs.Ytkiijfgoaeiphaa
theorem deep_0 : (List.range 4).all (fun n => deepOk (n + 0)) = true := by kernel_rfl
theorem deep_1 : (List.range 4).all (fun n => deepOk (n + 4)) = true := by kernel_rfl
theorem deep_2 : (List.range 4).all (fun n => deepOk (n + 8)) = true := by kernel_rfl
theorem deep_3 : (List.range 4).all (fun n => deepOk (n + 12)) = true := by kernel_rfl
theorem deep_4 : (List.range 4).all (fun n => deepOk (n + 16)) = true := by kernel_rfl
theorem deep_5 : (List.range 4).all (fun n => deepOk (n + 20)) = true := by kernel_rfl
theorem deep_6 : (List.range 4).all (fun n => deepOk (n + 24)) = true := by kernel_rfl
theorem deep_7 : (List.range 4).all (fun n => deepOk (n + 28)) = true := by kernel_rfl
theorem deep_8 : (List.range 4).all (fun n => deepOk (n + 32)) = true := by kernel_rfl
theorem deep_9 : (List.range 4).all (fun n => deepOk (n + 36)) = true := by kernel_rfl
theorem deep_10 : (List.range 4).all (fun n => deepOk (n + 40)) = true := by kernel_rfl
theorem deep_11 : (List.range 4).all (fun n => deepOk (n + 44)) = true := by kernel_rfl
theorem deep_12 : (List.range 4).all (fun n => deepOk (n + 48)) = true := by kernel_rfl
theorem deep_13 : (List.range 4).all (fun n => deepOk (n + 52)) = true := by kernel_rfl
theorem deep_14 : (List.range 4).all (fun n => deepOk (n + 56)) = true := by kernel_rfl
theorem deep_15 : (List.range 4).all (fun n => deepOk (n + 60)) = true := by kernel_rfl
theorem deep_16 : (List.range 4).all (fun n => deepOk (n + 64)) = true := by kernel_rfl
theorem deep_17 : (List.range 4).all (fun n => deepOk (n + 68)) = true := by kernel_rfl
theorem deep_18 : (List.range 4).all (fun n => deepOk (n + 72)) = true := by kernel_rfl
theorem deep_19 : (List.range 4).all (fun n => deepOk (n + 76)) = true := by kernel_rfl
theorem deep_20 : (List.range 4).all (fun n => deepOk (n + 80)) = true := by kernel_rfl
theorem deep_21 : (List.range 4).all (fun n => deepOk (n + 84)) = true := by kernel_rfl
theorem deep_22 : (List.range 4).all (fun n => deepOk (n + 88)) = true := by kernel_rfl
theorem deep_23 : (List.range 4).all (fun n => deepOk (n + 92)) = true := by kernel_rfl
theorem deep_24 : (List.range 4).all (fun n => deepOk (n + 96)) = true := by kernel_rfl
theorem deep_25 : (List.range 4).all (fun n => deepOk (n + 100)) = true := by kernel_rfl
theorem deep_26 : (List.range 4).all (fun n => deepOk (n + 104)) = true := by kernel_rfl
theorem deep_27 : (List.range 4).all (fun n => deepOk (n + 108)) = true := by kernel_rfl
theorem deep_28 : (List.range 4).all (fun n => deepOk (n + 112)) = true := by kernel_rfl
theorem deep_29 : (List.range 4).all (fun n => deepOk (n + 116)) = true := by kernel_rfl
theorem deep_30 : (List.range 4).all (fun n => deepOk (n + 120)) = true := by kernel_rfl
theorem deep_31 : (List.range 4).all (fun n => deepOk (n + 124)) = true := by kernel_rfl
theorem deep_32 : (List.range 4).all (fun n => deepOk (n + 128)) = true := by kernel_rfl
theorem deep_33 : (List.range 4).all (fun n => deepOk (n + 132)) = true := by kernel_rfl
theorem deep_34 : (List.range 4).all (fun n => deepOk (n + 136)) = true := by kernel_rfl
theorem deep_35 : (List.range 4).all (fun n => deepOk (n + 140)) = true := by kernel_rfl
theorem deep_36 : (List.range 4).all (fun n => deepOk (n + 144)) = true := by kernel_rfl
theorem deep_37 : (List.range 4).all (fun n => deepOk (n + 148)) = true := by kernel_rfl
theorem deep_38 : (List.range 4).all (fun n => deepOk (n + 152)) = true := by kernel_rfl
theorem deep_39 : (List.range 4).all (fun n => deepOk (n + 156)) = true := by kernel_rfl
theorem deep_40 : (List.range 4).all (fun n => deepOk (n + 160)) = true := by kernel_rfl
theorem deep_41 : (List.range 4).all (fun n => deepOk (n + 164)) = true := by kernel_rfl
theorem deep_42 : (List.range 4).all (fun n => deepOk (n + 168)) = true := by kernel_rfl
theorem deep_43 : (List.range 4).all (fun n => deepOk (n + 172)) = true := by kernel_rfl
theorem deep_44 : (List.range 4).all (fun n => deepOk (n + 176)) = true := by kernel_rfl
theorem deep_45 : (List.range 4).all (fun n => deepOk (n + 180)) = true := by kernel_rfl
theorem deep_46 : (List.range 4).all (fun n => deepOk (n + 184)) = true := by kernel_rfl
theorem deep_47 : (List.range 4).all (fun n => deepOk (n + 188)) = true := by kernel_rfl
theorem deep_48 : (List.range 4).all (fun n => deepOk (n + 192)) = true := by kernel_rfl
theorem deep_49 : (List.range 4).all (fun n => deepOk (n + 196)) = true := by kernel_rfl
theorem deep_50 : (List.range 4).all (fun n => deepOk (n + 200)) = true := by kernel_rfl
theorem deep_all (n : Nat) (h : n ≤ 200) : deepOk n = true := by
  have key : ∀ k, (List.range 4).all (fun n => deepOk (n + k)) = true → k ≤ n → n < k + 4 → deepOk n = true := fun k hk h1 h2 => by
    have := List.all_eq_true.1 hk (n - k) (List.mem_range.2 (by omega))
    rwa [show n - k + k = n by omega] at this
  rcases Nat.lt_or_ge n 4 with h0 | h0
  · exact key _ deep_0 (by omega) (by omega)
  rcases Nat.lt_or_ge n 8 with h1 | h1
  · exact key _ deep_1 (by omega) (by omega)
  rcases Nat.lt_or_ge n 12 with h2 | h2
  · exact key _ deep_2 (by omega) (by omega)
  rcases Nat.lt_or_ge n 16 with h3 | h3
  · exact key _ deep_3 (by omega) (by omega)
  rcases Nat.lt_or_ge n 20 with h4 | h4
  · exact key _ deep_4 (by omega) (by omega)
  rcases Nat.lt_or_ge n 24 with h5 | h5
  · exact key _ deep_5 (by omega) (by omega)
  rcases Nat.lt_or_ge n 28 with h6 | h6
  · exact key _ deep_6 (by omega) (by omega)
  rcases Nat.lt_or_ge n 32 with h7 | h7
  · exact key _ deep_7 (by omega) (by omega)
  rcases Nat.lt_or_ge n 36 with h8 | h8
  · exact key _ deep_8 (by omega) (by omega)
  rcases Nat.lt_or_ge n 40 with h9 | h9
  · exact key _ deep_9 (by omega) (by omega)
  rcases Nat.lt_or_ge n 44 with h10 | h10
  · exact key _ deep_10 (by omega) (by omega)
  rcases Nat.lt_or_ge n 48 with h11 | h11
  · exact key _ deep_11 (by omega) (by omega)
  rcases Nat.lt_or_ge n 52 with h12 | h12
  · exact key _ deep_12 (by omega) (by omega)
  rcases Nat.lt_or_ge n 56 with h13 | h13
  · exact key _ deep_13 (by omega) (by omega)
  rcases Nat.lt_or_ge n 60 with h14 | h14
  · exact key _ deep_14 (by omega) (by omega)
  rcases Nat.lt_or_ge n 64 with h15 | h15
  · exact key _ deep_15 (by omega) (by omega)
  rcases Nat.lt_or_ge n 68 with h16 | h16
  · exact key _ deep_16 (by omega) (by omega)
  rcases Nat.lt_or_ge n 72 with h17 | h17
  · exact key _ deep_17 (by omega) (by omega)
  rcases Nat.lt_or_ge n 76 with h18 | h18
  · exact key _ deep_18 (by omega) (by omega)
  rcases Nat.lt_or_ge n 80 with h19 | h19
  · exact key _ deep_19 (by omega) (by omega)
  rcases Nat.lt_or_ge n 84 with h20 | h20
  · exact key _ deep_20 (by omega) (by omega)
  rcases Nat.lt_or_ge n 88 with h21 | h21
  · exact key _ deep_21 (by omega) (by omega)
  rcases Nat.lt_or_ge n 92 with h22 | h22
  · exact key _ deep_22 (by omega) (by omega)
  rcases Nat.lt_or_ge n 96 with h23 | h23
  · exact key _ deep_23 (by omega) (by omega)
  rcases Nat.lt_or_ge n 100 with h24 | h24
  · exact key _ deep_24 (by omega) (by omega)
  rcases Nat.lt_or_ge n 104 with h25 | h25
  · exact key _ deep_25 (by omega) (by omega)
  rcases Nat.lt_or_ge n 108 with h26 | h26
  · exact key _ deep_26 (by omega) (by omega)
  rcases Nat.lt_or_ge n 112 with h27 | h27
  · exact key _ deep_27 (by omega) (by omega)
  rcases Nat.lt_or_ge n 116 with h28 | h28
  · exact key _ deep_28 (by omega) (by omega)
  rcases Nat.lt_or_ge n 120 with h29 | h29
  · exact key _ deep_29 (by omega) (by omega)
  rcases Nat.lt_or_ge n 124 with h30 | h30
  · exact key _ deep_30 (by omega) (by omega)
  rcases Nat.lt_or_ge n 128 with h31 | h31
  · exact key _ deep_31 (by omega) (by omega)
  rcases Nat.lt_or_ge n 132 with h32 | h32
  · exact key _ deep_32 (by omega) (by omega)
  rcases Nat.lt_or_ge n 136 with h33 | h33
  · exact key _ deep_33 (by omega) (by omega)
  rcases Nat.lt_or_ge n 140 with h34 | h34
  · exact key _ deep_34 (by omega) (by omega)
  rcases Nat.lt_or_ge n 144 with h35 | h35
  · exact key _ deep_35 (by omega) (by omega)
  rcases Nat.lt_or_ge n 148 with h36 | h36
  · exact key _ deep_36 (by omega) (by omega)
  rcases Nat.lt_or_ge n 152 with h37 | h37
  · exact key _ deep_37 (by omega) (by omega)
  rcases Nat.lt_or_ge n 156 with h38 | h38
  · exact key _ deep_38 (by omega) (by omega)
  rcases Nat.lt_or_ge n 160 with h39 | h39
  · exact key _ deep_39 (by omega) (by omega)
  rcases Nat.lt_or_ge n 164 with h40 | h40
  · exact key _ deep_40 (by omega) (by omega)
  rcases Nat.lt_or_ge n 168 with h41 | h41
  · exact key _ deep_41 (by omega) (by omega)
  rcases Nat.lt_or_ge n 172 with h42 | h42
  · exact key _ deep_42 (by omega) (by omega)
  rcases Nat.lt_or_ge n 176 with h43 | h43
  · exact key _ deep_43 (by omega) (by omega)
  rcases Nat.lt_or_ge n 180 with h44 | h44
  · exact key _ deep_44 (by omega) (by omega)
  rcases Nat.lt_or_ge n 184 with h45 | h45
  · exact key _ deep_45 (by omega) (by omega)
  rcases Nat.lt_or_ge n 188 with h46 | h46
  · exact key _ deep_46 (by omega) (by omega)
  rcases Nat.lt_or_ge n 192 with h47 | h47
  · exact key _ deep_47 (by omega) (by omega)
  rcases Nat.lt_or_ge n 196 with h48 | h48
  · exact key _ deep_48 (by omega) (by omega)
  rcases Nat.lt_or_ge n 200 with h49 | h49
  · exact key _ deep_49 (by omega) (by omega)
  exact key _ deep_50 (by omega) (by omega)
end Go.Proofs.Ytkiijfgoaeiphaa

/- ParseDeep's walk. -/
set_option linter.unusedVariables false
set_option linter.unusedSimpArgs false
namespace Go.Proofs.Ytkiijfgoaeiphaa
open Go.RowKit
attribute [local go_sem ↓] Go.wp_at_zero Go.wp_at_succ

def preBytes : List UInt8 := [108, 101, 116, 32, 120, 32, 61, 32]
abbrev preArr : Array Value := #[.int .u8 108, .int .u8 101, .int .u8 116, .int .u8 32, .int .u8 120, .int .u8 32, .int .u8 61, .int .u8 32]

theorem deep_string (k : Nat) {W : World} {base : Nat} {v : Value} (h : W.ownsRow base 5 1 v (9 + k + k) (bcells (preBytes ++ List.replicate k (40 : UInt8) ++ [(49 : UInt8)]) ++ bcells (List.replicate k (41 : UInt8)))) :
    ∃ g c, v = .slice (some ⟨g, 0, none⟩) (9 + k + k) c ∧ (convert 41 9 (.slice (some ⟨g, 0, none⟩) (9 + k + k) c)).run Try.prog W = .ok (.string (deepText k)) W := by
  obtain ⟨g, c, hv, _, _, hc⟩ := own_at h (by omega)
  have hsz : (deepText k).size = 9 + k + k := by unfold deepText; simp [ByteArray.size]; omega
  refine ⟨g, c, hv, ?_⟩
  rw [← hsz]
  refine Lib.run_convert_whole (P := Try.prog) W 41 5 9 Try.underlying41 Try.underlying5 Try.underlying9 g 0 (deepText k) (fun i hi => ?_) c
  rw [Nat.zero_add]
  refine hc i _ ?_
  have e : bcells (preBytes ++ List.replicate k (40 : UInt8) ++ [(49 : UInt8)]) ++ bcells (List.replicate k (41 : UInt8)) = bcells (deepText k).data.toList := by simp [bcells, deepText, preBytes]
  rw [e]
  have hi' : i < (deepText k).data.toList.length := by simpa using hi
  simp only [bcells, List.getElem?_map, List.getElem?_eq_getElem hi', Option.map_some]
  rfl

set_option maxRecDepth 100000 in
set_option maxHeartbeats 4000000 in
theorem deep_walk (n : Int) (w : World) : Calls Try.prog 5 #[.int .i64 n] w fun e w' => e = .returned (.bool true) ∧ Below w.heap.size w w' := by
  generalize hPost : (fun (e : Ending) (w' : World) => e = .returned (.bool true) ∧ Below w.heap.size w w') = Post
  have e0 := Sec.mk hPost
  clear hPost
  have kc := fun (w : World) (C : Array Value) (n c : Nat) => Lib.run_convert_bytes_const (P := Try.prog) w 41 5 C n c Try.underlying41 Try.underlying5
  go_enter Try.func5, Try.ntmps5
  go_wp2_with fail
  refine (alive10_any _).mono ?_
  rintro e W0 ⟨rfl, hB0⟩
  by_cases h1 : n < 0
  · go_wp2_with fail
    rw [← e0.out]; exact ⟨rfl, hB0⟩
  by_cases h2 : 200 < n
  · go_wp2_with fail
    rw [← e0.out]; exact ⟨rfl, hB0⟩
  obtain ⟨N, rfl⟩ : ∃ N : Nat, n = N := ⟨n.toNat, by omega⟩
  have hN : N ≤ 200 := by omega
  have hA0 : BRow (W0.alloc (.cells preArr 5 (8, 9))) w.heap.size (.slice (some ⟨W0.heap.size, 0, none⟩) 8 8) preBytes :=
    ⟨⟨W0.heap.size, 8, rfl, hB0.size, by simp, fun j u hu => by rw [cell_of_row _ _ _ _ _ _ (heap_alloc_new W0 _)]; simpa [preBytes, bcells] using hu⟩, .inr ⟨_, rfl⟩⟩
  go_wp2_with fail
  go_loopg [3, 4, 5] N (fun m va vz iv wr => ∃ k : Nat, iv = .int .i64 k ∧ Sec (k + m = N) ∧ BRow wr w.heap.size va (preBytes ++ List.replicate k 40) ∧ BRow wr w.heap.size vz (List.replicate k 41) ∧ va.ownBlock ≠ vz.ownBlock ∧ Below w.heap.size w wr)
  case atStart =>
    have hs0 := hB0.size
    refine ⟨0, rfl, ⟨by omega⟩, ?_, ?_, ?_, ?_⟩
    · exact hA0.keep (by simp) fun g hg => Below.heap_alloc _ _ _ (by simp [Value.ownBlock] at hg; subst hg; simp)
    · have ho := own_new (W0.alloc (.cells preArr 5 (8, 9))) w.heap.size (by simp; omega) #[] 5 1 0 rfl (by simp)
      rw [show (W0.alloc (.cells preArr 5 (8, 9))).heap.size = W0.heap.size + 1 by simp] at ho
      exact BRow.ofOwn (l := []) ho rfl
    · simp [Value.ownBlock]
    · exact (hB0.alloc hB0.size _).alloc (by simp; omega) _
  case round =>
    obtain ⟨k, rfl, hk, hA, hZ, hne, hB⟩ := hrel
    obtain ⟨ga, ca, hva, _, gla, _⟩ := hA.shape
    obtain ⟨gz, cz, hvz, _, glz, _⟩ := hZ.shape
    rw [show (preBytes ++ List.replicate k (40 : UInt8)).length = 8 + k by simp [preBytes]; omega] at hva
    rw [List.length_replicate] at hvz
    subst hva
    subst hvz
    by_cases hlt : k < N
    · have hki : (k : Int) < (N : Int) := by omega
      cases gk with
      | zero => have := hk.out; omega
      | succ m =>
        have hne' : (Value.slice (some ⟨gz, 0, none⟩) k cz).ownBlock ≠ (Value.slice (some ⟨ga, 0, none⟩) (8 + k) ca).ownBlock := fun e => hne e.symm
        go_wp2_with (first | (at_builtin; refine push_byte rfl _ _ rfl 40 (by rfl) (by rfl) (by simp) hA hB.size (by simp [preBytes]; omega) ?_; intro v1 W1 hA1 _ hg1 hap1; have hZ1 := hZ.keep hap1.size (fun g hg => hap1.far g (by simp [Value.ownBlock] at hg; omega) (fun e => hne' (hg.trans e))); have hB1 := hap1.below hB hB.size (fun g hg => by obtain ⟨g', c', e', h1, _⟩ := hA.shape; rw [e'] at hg; simp [Value.ownBlock] at hg; omega)) | (at_builtin; refine push_byte rfl _ _ rfl 41 (by rfl) (by rfl) (by simp) hZ1 hB1.size (by simp; omega) ?_; intro v2 W2 hZ2 _ hg2 hap2))
        obtain ⟨q1, e1, r1⟩ := hg1
        obtain ⟨q2, e2, r2⟩ := hg2
        have hq1 : q1 ≠ gz := by
          rcases r1 with r1 | r1
          · intro e; subst e; exact hne' r1.symm
          · omega
        have hA2 := hA1.keep hap2.size (fun g hg => by
          rw [e1] at hg
          injection hg with hg
          subst hg
          obtain ⟨g', c', e', _, hl', _⟩ := hA1.shape
          rw [e'] at e1
          simp [Value.ownBlock] at e1
          exact hap2.far _ (by omega) (fun e => by simp [Value.ownBlock] at e; exact hq1 e))
        have hq2 : v1.ownBlock ≠ v2.ownBlock := by
          rw [e1, e2]
          intro e
          injection e with e
          rcases r2 with r2 | r2
          · simp [Value.ownBlock] at r2; omega
          · obtain ⟨g', c', e', _, hl', _⟩ := hA1.shape
            rw [e'] at e1
            simp [Value.ownBlock] at e1
            omega
        have hB2 := hap2.below hB1 hB1.size (fun g hg => by obtain ⟨g', c', e', h1, _⟩ := hZ.shape; rw [e'] at hg; simp [Value.ownBlock] at hg; omega)
        go_roundg m
        case measure => omega
        case rel => exact ⟨k + 1, by rw [show ((k + 1 : Nat) : Int) = (k : Int) + 1 from by omega], ⟨by have := hk.out; omega⟩, by rw [List.replicate_succ', ← List.append_assoc]; exact hA2, by rw [List.replicate_succ']; exact hZ2, hq2, hB2⟩
    · have hki : ¬ (k : Int) < (N : Int) := by omega
      obtain rfl : k = N := by have := hk.out; omega
      have hlA : (preBytes ++ List.replicate k (40 : UInt8)).length = 8 + k := by simp [preBytes]; omega
      go_wp2_with fail
      refine (copyBytes_any _ (8 + k) (preBytes ++ List.replicate k (40 : UInt8)) wr (by have := hA.row; rwa [hlA] at this) hlA (by omega)).mono ?_
      rintro e W3 ⟨v3, b3, c3, rfl, hv3, hown3, hB3⟩
      have hA3 := BRow.ofOwn (l := preBytes ++ List.replicate k (40 : UInt8)) (by rw [hlA]; exact hown3) (by rw [hlA]; exact hv3)
      have hZ3 := hZ.keep hB3.size (fun g hg => hB3.block g (by simp [Value.ownBlock] at hg; omega))
      subst hv3
      have hb3 : wr.heap.size ≤ b3 := (hown3.lt b3 rfl).1
      go_wp2_with (first | (at_builtin; refine push_byte rfl _ _ rfl 49 (by rfl) (by rfl) (by simp) hA3 (by have := hB3.size; omega) (by rw [hlA]; omega) ?_; intro v4 W4 hA4 ho4 hg4 hap4; obtain ⟨g4, c4, hv4, hge4, hlt4, _⟩ := hA4.shape; rw [show (preBytes ++ List.replicate k (40 : UInt8) ++ [(49 : UInt8)]).length = 9 + k by simp [preBytes]; omega] at hv4 ho4; subst hv4; have hZ4 := hZ3.keep hap4.size (fun g hg => hap4.far g (by have := hB3.size; simp [Value.ownBlock] at hg; omega) (fun e => by simp [Value.ownBlock] at hg e; omega)); have hr4 := hZ4.row; rw [List.length_replicate] at hr4) | (at_builtin; refine push_many Try.underlying41 infoU8 rfl (by omega) (by omega) rfl _ _ rfl (by rfl) (by rfl) ho4 hr4 (by simp [bcells]) (bcells_one _) (by have := hB3.size; have := hap4.size; omega) (by omega) ?_; intro v5 W5 hown5 hap5 hat5; obtain ⟨g5, c5, hv5, hcv⟩ := deep_string k hown5; subst hv5))
      refine (One_all (deepText k) (by unfold deepText; simp [ByteArray.size]; omega) _).mono ?_
      rintro e W6 ⟨hB6, nv, rfl, hG6⟩
      have hdeep := deep_all k hN
      unfold deepOk at hdeep
      have hB4 : Below w.heap.size w W4 := hap4.below (hB.trans (hB3.mono hB.size)) (by have := hB3.size; have := hB.size; omega) (fun g hg => by simp [Value.ownBlock] at hg; have := hB.size; omega)
      have hB5 : Below w.heap.size w W5 := hap5.below hB4 hB4.size (fun g hg => by simp [Value.ownBlock] at hg; have := hB.size; omega)
      have hB7 : Below w.heap.size w W6 := hB5.trans (hB6.mono hB5.size)
      generalize one (deepText k) = r at hdeep hG6
      obtain ⟨ns, f⟩ := r
      obtain ⟨na, nc, hnv⟩ := hG6.shape
      subst hnv
      have fin : Sec (∀ W', Below W6.heap.size W6 W' → Post (.returned (.bool true)) W') := ⟨fun W' hb => by rw [← e0.out]; exact ⟨rfl, hB7.trans (hb.mono hB7.size)⟩⟩
      have hfa : Below W6.heap.size W6 (W6.alloc (.cells #[.int .i64 f.code, .int .i64 f.lo, .int .i64 f.hi] 25)) := (Below.refl _ _).alloc (Nat.le_refl _) _
      clear hB hB3 hB4 hB5 hB6 hB7 hap4 hap5 hA hZ hA3 hA4 hZ3 hZ4 hr4 ho4 hown3 hown5 hG6 hcv kc
      by_cases h64 : 64 < k
      · rw [if_pos h64] at hdeep
        simp only [Bool.and_eq_true, beq_iff_eq, decide_eq_true_eq] at hdeep
        obtain ⟨hd1, rfl⟩ := hdeep
        have hki4 : (64 : Int) < (k : Int) := by omega
        simp only at hd1 hfa
        rw [hd1]
        go_wp2_with fail
        exact fin.out _ hfa
      · rw [if_neg h64] at hdeep
        simp only [Bool.and_eq_true, beq_iff_eq, decide_eq_true_eq] at hdeep
        obtain ⟨rfl, hd1⟩ := hdeep
        have hki4 : ¬ (64 : Int) < (k : Int) := by omega
        simp only at hd1 hfa
        rw [hd1]
        go_wp2_with fail
        exact fin.out _ hfa
end Go.Proofs.Ytkiijfgoaeiphaa

/- A row's post, where the world behind the call has new memory alone ('Below'): new blocks may bear marks. -/
set_option linter.unusedVariables false
namespace Go.Proofs.Ytkiijfgoaeiphaa
open Go.RowKit Go.ChangeShapes Go.WideShapes Go.ChangeAt
theorem below_kept {W W' : World} (h : Below W.heap.size W W') (Q : MemPlace → Prop) : W.keptBut W' Q := by
  refine ⟨h.os, h.output, fun i hi => ?_⟩
  rw [h.block i hi]
  generalize W.heap[i]? = o
  cases o with
  | none => exact rfl
  | some o => cases o <;> first | exact ⟨rfl, rfl, rfl, fun _ _ => rfl⟩ | exact .inr ⟨rfl, rfl⟩ | exact rfl
theorem below_frozen {W W' : World} (h : Below W.heap.size W W') {a : Addr} (ha : a.block < W.heap.size) : W'.frozen? a = W.frozen? a := World.frozen?_of_block (h.block _ ha)
/-- The post of a law: its arguments read as they did, and there is new memory alone. -/
theorem post_below {H : Type} {enc : TypeId × Value → H} {f : Func} {s : ChangeSpec} {apart fresh handsOn again : Bool} {W W' : World} {args : Array Value} {v : Value} {ds gs : List (DataW H)} {before pa pv : List MemPlace}
    (hW : DataW.Whole enc Try.prog f.params.toList s.vars apart W args.toList ds gs before)
    (hres : ∀ (b : Nat) (sp : Nat → Bool) (hd : Bool), DataW.TrodAll enc Try.prog W' b sp hd f.resultTypes.toList (v.resultList f.resultTypes.size) (s.fn H (ds ++ gs)).results [])
    (hargs : ∀ sp : Nat → Bool, (∀ p ∈ before, sp p.block = true) → DataW.TrodAll enc Try.prog W' 0 sp true f.params.toList args.toList (s.fn H (ds ++ gs)).args pa)
    (hvars : ∀ sp : Nat → Bool, (∀ p ∈ before, sp p.block = true) → DataW.TrodVars enc Try.prog W' sp s.vars (s.fn H (ds ++ gs)).vars pv)
    (hps : before = pa ++ pv) (hb : Below W.heap.size W W')
    (hok : ∀ (j : Nat) (t : TypeId) (r : Value), f.resultTypes[j]? = some t → (v.resultList f.resultTypes.size)[j]? = some r → Value.okWide Try.prog W' .any 0 t r) :
    s.post enc Try.prog f apart fresh handsOn again W args v W' := by
  have hlt := hW.lt
  have hold : ∀ p ∈ before, (fun b => decide (b < W.heap.size)) p.block = true := fun p hp => by simpa using hlt p hp
  refine ⟨ds, gs, before, [], pa, pv, hW, hres _ _ _, hargs _ hold, hvars _ hold, below_kept hb _, fun _ => ?_⟩
  obtain ⟨_, _, _, _, _, hz, hn⟩ := hW
  refine ⟨hok, _, _, ([] ++ pa) ++ pv, ⟨[] ++ pa, pv, trodAll_append (hargs _ (fun _ _ => rfl)) (hres _ _ _), hvars _ (fun _ _ => rfl), rfl, fun b off hp => ?_, fun ha => by simpa [hps] using hn ha⟩, fun p hp _ => by simpa [hps] using hp⟩
  have hp' : MemPlace.cell b off ∈ before := by rw [hps]; simpa using hp
  rw [below_frozen hb (hlt _ hp')]
  exact hz b off hp'
end Go.Proofs.Ytkiijfgoaeiphaa
