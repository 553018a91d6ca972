/- tick. -/
import Derived.Test.YtkiijfgoaeiphaaGb
import Derived.WalkMore
set_option linter.unusedVariables false
set_option linter.unusedSimpArgs false
namespace Go.Proofs.Ytkiijfgoaeiphaa
open Go.RowKit
attribute [local go_sem ↓] Go.wp_at_zero Go.wp_at_succ

set_option maxRecDepth 100000 in
set_option maxHeartbeats 1000000 in
theorem tick_any (x : Cx) : Meets x 61 #[pp x.g] (tick x.toTxt) eN := by
  intro L w st hp hns
  have hE : Eqn ((tick x.toTxt) st) ((tick x.toTxt) st) := ⟨rfl⟩
  have hN := Sec.mk hns
  have hM := Mid.start hp
  clear hns
  generalize hPost : PostM x L eN w ((tick x.toTxt) st) = Post
  have e0 := Sec.mk hPost
  clear hPost
  have flo := run_lo
  have fhi := run_hi
  go_enter Try.func61, Try.ntmps61
  go_wp2_with fail
  refine (takeKind_any x 4).use hM.pw (ns_bind hN.out hE.out) (fun t st2 w2 he hp' hk' => ?_) (fun fl w2 he hk' => ?_)
  rotate_left
  · exact ⟨rfl, by rw [← e0.out]; exact hM.toBad (bad_bind hE.out he) hk'⟩
  replace hE := Eqn.mk (eq_bind hE.out he)
  clear he
  replace hM := hM.step hk' hp'
  clear hk' hp'
  try dsimp only [eN, eT, eB, eS, eU, eI, eNB]
  obtain ⟨LB, hMB, htb, htw⟩ : ∃ LB : Nat → Prop, Mid x L w LB (w2.alloc (.cells #[.int .i64 t.kind, .int .i64 t.lo, .int .i64 t.hi] 31)) st2 ∧ LB w2.heap.size ∧ w2.heap.size < (w2.alloc (.cells #[.int .i64 t.kind, .int .i64 t.lo, .int .i64 t.hi] 31)).heap.size := ⟨_, hM.own (.cells #[.int .i64 t.kind, .int .i64 t.lo, .int .i64 t.hi] 31), .inr rfl, by simp⟩
  replace hM := hMB
  clear hMB
  obtain ⟨tk, tl, th⟩ := t
  go_wp2_with fail
  have hS : HeldN w2.heap.size ⟨tk, tl, th⟩ (w2.alloc (.cells #[.int .i64 tk, .int .i64 tl, .int .i64 th] 31)) := ⟨by simp, by simp, by simp⟩
  try dsimp only at hM htw
  generalize w2.alloc (.cells #[.int .i64 tk, .int .i64 tl, .int .i64 th] 31) = W1 at hM hS htw ⊢
  generalize w2.heap.size = tb at htb hS htw ⊢
  have hS1 : HeldN tb ⟨tk, tl, th⟩ W1.drew := hS
  have hS1' := Sec.mk hS1
  clear hS
  unfold HeldN at hS1
  dsimp only at hS1
  by_cases hsz : 0 < (wordOf x.s ⟨tk, tl, th⟩).size
  rotate_left
  · exact absurd (hE.out.trans (congrFun (if_neg hsz) _)) hN.out
  replace hE := Eqn.mk (hE.out.trans (congrFun (if_pos hsz) _))
  have hsi : (1 : Int) ≤ ((wordOf x.s ⟨tk, tl, th⟩).size : Int) := by omega
  have hlf := Sec.mk (leaf_ok (kind := 24) (num := 0) (name := (wordOf x.s ⟨tk, tl, th⟩).extract 1 (wordOf x.s ⟨tk, tl, th⟩).size) (ns_last hN.out hE.out))
  replace hE := Eqn.mk (hE.out.trans hlf.out)
  go_region_held3 (fun w' => w'.cell? ⟨tb, 0, none⟩ = some (.int .i64 tk) ∧ w'.cell? ⟨tb, 1, none⟩ = some (.int .i64 tl) ∧ w'.cell? ⟨tb, 2, none⟩ = some (.int .i64 th))
    (first | with_reducible exact hS3 | with_reducible exact hS4 | with_reducible exact hS1 | fail)
    (first | ((go_at_call 62; refine (pword_any x ⟨tk, tl, th⟩).asks hM.pw.drew rfl fun w3 hp3 hk3 => ?_; dsimp only [eS]; have hS3 := HeldN.keep (t := ⟨tk, tl, th⟩) hk3 htb hS1'.out; unfold HeldN at hS3; dsimp only at hS3)) | ((go_at_call 67; refine (leaf_any x 24 0 ((wordOf x.s ⟨tk, tl, th⟩).extract 1 (wordOf x.s ⟨tk, tl, th⟩).size) ⟨tk, tl, th⟩).useOk hp3 hlf.out fun w4 hp4 hk4 => ?_; dsimp only [eN]; have hS4 := HeldN.keep (t := ⟨tk, tl, th⟩) hk4 htb (HeldN.keep (t := ⟨tk, tl, th⟩) hk3 htb hS1'.out); unfold HeldN at hS4; dsimp only at hS4)))
  replace hM := (hM.drew.step hk3 hp3).step hk4 hp4
  clear hk3 hp3 hk4 hp4 hS3 hS4 hS1
  go_wp2_with fail
  rw [← e0.out]
  exact hM.toOk hE.out

end Go.Proofs.Ytkiijfgoaeiphaa

/- More of a row of one's own. -/
set_option linter.unusedVariables false
namespace Go.Proofs.Ytkiijfgoaeiphaa
open Go.RowKit
section
variable {x : Cx} {L Lk L' : Nat → Prop} {w W W' : World} {v : Value} {l : List Int} {st st' : PSt}
theorem KL.drew (h : KL x L w Lk W v l st) : KL x L w Lk W.drew v l st := h.step ((Keeps.refl _ _ _).drew) h.pw.drew
/-- A block of one's own more. -/
theorem KL.ownBlock (h : KL x L w Lk W v l st) (o : Obj) : KL x L w (fun i => Lk i ∨ i = W.heap.size) (W.alloc o) v l st :=
  ⟨h.own.alloc _, fun k hk => .inl (h.prot k hk), fun i hi => .inl (h.sub i hi), h.pw.alloc_own o, h.keeps.trans ((h.pw.keepAlloc o).weaken h.sub), h.glt, h.lb⟩
/-- The row is given away, and L' is kept. -/
theorem KL.kidsOf (h : KL x L w Lk W v l st) (hL : ∀ k, v.ownBlock = some k → ¬ L' k) : KidsIn W L' v l := by
  rcases h.own.2 with ⟨rfl, h0⟩ | ⟨g, cap, cur, rfl, hb, hh, h1, h2, h3, h4⟩
  · have : l = [] := List.eq_nil_of_length_eq_zero h0
    subst this
    exact kids_nil _ _
  · refine ⟨_, cap, rfl, h1, h2, fun _ => ⟨g, 0, cur, (0, 0), rfl, hL g rfl, hh, fun j y hj => ?_⟩⟩
    have hj' : j < l.length := (List.getElem?_eq_some_iff.1 hj).1
    have h5 : (ints l)[j]? = some (.int .i64 y) := by simp [ints, hj]
    rw [← h4, List.getElem?_take, if_pos (by omega)] at h5
    simpa using h5
theorem KL.lt (h : KL x L w Lk W v l st) {k : Nat} (hk : v.ownBlock = some k) : w.heap.size ≤ k ∧ k < W.heap.size := h.own.lt k hk
end
/-- A list of parts that lies in one block. -/
theorem kids_at {w : World} {L : Nat → Prop} {l : List Int} {b : Nat} (hb : w.heap[b]? = some (.cells (ints l).toArray 3 (0, 0))) (hl : l.length ≤ 1000) (hn : ¬ L b) : KidsIn w L (.slice (some ⟨b, 0, none⟩) l.length l.length) l :=
  ⟨_, l.length, rfl, Nat.le_refl _, by unfold maxLen; omega, fun _ => ⟨b, 0, (ints l).toArray, (0, 0), rfl, hn, hb, fun j y hj => by simp [ints, hj]⟩⟩
theorem Mid.back {x : Cx} {L LB : Nat → Prop} {w W : World} {st : PSt} (h : Mid x L w LB W st) : Mid x L w L W st := ⟨h.pw.weaken h.sub, h.keeps, fun _ h => h⟩
theorem Mid.less {x : Cx} {L LB LC : Nat → Prop} {w W : World} {st : PSt} (h : Mid x L w LB W st) (hl : ∀ i, LC i → LB i) (hs : ∀ i, L i → LC i) : Mid x L w LC W st := ⟨h.pw.weaken hl, h.keeps, hs⟩
end Go.Proofs.Ytkiijfgoaeiphaa

/- namedFirst. -/
set_option linter.unusedVariables false
set_option linter.unusedSimpArgs false
namespace Go.Proofs.Ytkiijfgoaeiphaa
open Go.RowKit
attribute [local go_sem ↓] Go.wp_at_zero Go.wp_at_succ

set_option maxRecDepth 100000 in
set_option maxHeartbeats 2000000 in
theorem namedFirst_any (x : Cx) (d : Nat) (T : M Nat) (hd : d ≤ 64) (cT : Meets x 75 #[pp x.g, .int .i64 ((d : Int) + 1)] T eN) : Meets x 91 #[pp x.g, .int .i64 d] (namedFirst x.toTxt T) eN := by
  have cT := Sec.mk cT
  intro L w st hp hns
  have hsm := hp.small
  have hE : Eqn ((namedFirst x.toTxt T) st) ((namedFirst x.toTxt T) st) := ⟨rfl⟩
  have hN := Sec.mk hns
  have hM := Mid.start hp
  clear hns
  generalize hPost : PostM x L eN w ((namedFirst x.toTxt T) st) = Post
  have e0 := Sec.mk hPost
  clear hPost
  have flo := run_lo
  have fhi := run_hi
  go_enter Try.func91, Try.ntmps91
  cases hb : isK x.toTxt 4 st with
  | true =>
    replace hE := Eqn.mk (hE.out.trans (if_pos hb))
    have hB := Sec.mk hb
    clear hb
    go_wp2_with fail
    refine (kind_any x 4).asks hM.pw hB.out fun w' hp' hk' => ?_
    replace hM := hM.step hk' hp'
    clear hk' hp'
    try dsimp only [eN, eT, eB, eS, eU, eI, eNB]
    go_wp2_with fail
    refine (tick_any x).use hM.pw (ns_last hN.out hE.out) (fun k st' w' he hp' hk' => ?_) (fun fl w' he hk' => ?_)
    rotate_left
    · exact ⟨rfl, by rw [← e0.out]; exact hM.toBad (hE.out.trans he) hk'⟩
    replace hE := Eqn.mk (hE.out.trans he)
    clear he
    replace hM := hM.step hk' hp'
    clear hk' hp'
    try dsimp only [eN, eT, eB, eS, eU, eI, eNB]
    go_wp2_with fail
    rw [← e0.out]
    exact hM.toOk hE.out
  | false =>
    replace hE := Eqn.mk (hE.out.trans (if_neg (nott hb)))
    have hB := Sec.mk hb
    clear hb
    go_wp2_with fail
    refine (kind_any x 4).asks hM.pw hB.out fun w' hp' hk' => ?_
    replace hM := hM.step hk' hp'
    clear hk' hp'
    try dsimp only [eN, eT, eB, eS, eU, eI, eNB]
    cases hb : isK x.toTxt 1 st with
    | true =>
      replace hE := Eqn.mk (hE.out.trans (if_pos hb))
      have hB := Sec.mk hb
      clear hb
      go_wp2_with fail
      refine (kind_any x 1).asks hM.pw hB.out fun w' hp' hk' => ?_
      replace hM := hM.step hk' hp'
      clear hk' hp'
      try dsimp only [eN, eT, eB, eS, eU, eI, eNB]
      go_wp2_with fail
      refine (next_any x).use hM.pw (ns_bind hN.out hE.out) (fun t st2 w2 he hp' hk' => ?_) (fun fl w2 he hk' => ?_)
      rotate_left
      · exact ⟨rfl, by rw [← e0.out]; exact hM.toBad (bad_bind hE.out he) hk'⟩
      replace hE := Eqn.mk (eq_bind hE.out he)
      clear he
      replace hM := hM.step hk' hp'
      clear hk' hp'
      try dsimp only [eN, eT, eB, eS, eU, eI, eNB]
      obtain ⟨LB, hMB, htb, htw⟩ : ∃ LB : Nat → Prop, Mid x L w LB (w2.alloc (.cells #[.int .i64 t.kind, .int .i64 t.lo, .int .i64 t.hi] 31)) st2 ∧ LB w2.heap.size ∧ w2.heap.size < (w2.alloc (.cells #[.int .i64 t.kind, .int .i64 t.lo, .int .i64 t.hi] 31)).heap.size := ⟨_, hM.own (.cells #[.int .i64 t.kind, .int .i64 t.lo, .int .i64 t.hi] 31), .inr rfl, by simp⟩
      replace hM := hMB
      clear hMB
      obtain ⟨tk, tl, th⟩ := t
      go_wp2_with fail
      have hS : HeldN w2.heap.size ⟨tk, tl, th⟩ (w2.alloc (.cells #[.int .i64 tk, .int .i64 tl, .int .i64 th] 31)) := ⟨by simp, by simp, by simp⟩
      try dsimp only at hM htw
      generalize w2.alloc (.cells #[.int .i64 tk, .int .i64 tl, .int .i64 th] 31) = W1 at hM hS htw ⊢
      generalize w2.heap.size = tb at htb hS htw ⊢
      have hS1 : HeldN tb ⟨tk, tl, th⟩ W1.drew := hS
      have hS1' := Sec.mk hS1
      clear hS
      unfold HeldN at hS1
      dsimp only at hS1
      have hlf := Sec.mk (leaf_ok (kind := 25) (num := 0) (name := wordOf x.s ⟨tk, tl, th⟩) (ns_last hN.out hE.out))
      replace hE := Eqn.mk (hE.out.trans hlf.out)
      go_region_held3 (fun w' => w'.cell? ⟨tb, 0, none⟩ = some (.int .i64 tk) ∧ w'.cell? ⟨tb, 1, none⟩ = some (.int .i64 tl) ∧ w'.cell? ⟨tb, 2, none⟩ = some (.int .i64 th))
        (first | with_reducible exact hS3 | with_reducible exact hS4 | with_reducible exact hS1 | fail)
        (first | ((go_at_call 62; refine (pword_any x ⟨tk, tl, th⟩).asks hM.pw.drew rfl fun w3 hp3 hk3 => ?_; dsimp only [eS]; have hS3 := HeldN.keep (t := ⟨tk, tl, th⟩) hk3 htb hS1'.out; unfold HeldN at hS3; dsimp only at hS3)) | ((go_at_call 67; refine (leaf_any x 25 0 (wordOf x.s ⟨tk, tl, th⟩) ⟨tk, tl, th⟩).useOk hp3 hlf.out fun w4 hp4 hk4 => ?_; dsimp only [eN]; have hS4 := HeldN.keep (t := ⟨tk, tl, th⟩) hk4 htb (HeldN.keep (t := ⟨tk, tl, th⟩) hk3 htb hS1'.out); unfold HeldN at hS4; dsimp only at hS4)))
      replace hM := (hM.drew.step hk3 hp3).step hk4 hp4
      clear hk3 hp3 hk4 hp4 hS3 hS4 hS1
      go_wp2_with fail
      rw [← e0.out]
      exact hM.toOk hE.out
    | false =>
      replace hE := Eqn.mk (hE.out.trans (if_neg (nott hb)))
      have hB := Sec.mk hb
      clear hb
      go_wp2_with fail
      refine (kind_any x 1).asks hM.pw hB.out fun w' hp' hk' => ?_
      replace hM := hM.step hk' hp'
      clear hk' hp'
      try dsimp only [eN, eT, eB, eS, eU, eI, eNB]
      go_wp2_with fail
      refine (take_any x ⟨#[40]⟩).use hM.pw (ns_bind hN.out hE.out) (fun t0 st' w' he hp' hk' => ?_) (fun fl w' he hk' => ?_)
      rotate_left
      · exact ⟨rfl, by rw [← e0.out]; exact hM.toBad (bad_bind hE.out he) hk'⟩
      replace hE := Eqn.mk (eq_bind hE.out he)
      clear he
      replace hM := hM.step hk' hp'
      clear hk' hp'
      try dsimp only [eN, eT, eB, eS, eU, eI, eNB]
      go_wp2_with fail
      refine (cT.out).use hM.pw (ns_bind hN.out hE.out) (fun k0 st2 w2 he hp' hk' => ?_) (fun fl w2 he hk' => ?_)
      rotate_left
      · exact ⟨rfl, by rw [← e0.out]; exact hM.toBad (bad_bind hE.out he) hk'⟩
      replace hE := Eqn.mk (eq_bind hE.out he)
      clear he
      replace hM := hM.step hk' hp'
      clear hk' hp'
      try dsimp only [eN, eT, eB, eS, eU, eI, eNB]
      go_wp2_with fail
      have hK := KL.one (w := w) hp hM.keeps hM.pw (k0 : Int)
      clear hM
      go_wp2_with fail
      go_loopg [7] (x.toks.length + 1) (fun n v wr => ∃ l st3 Lk, KL x L w Lk wr v l st3 ∧ Sec (l.length + n = x.toks.length + 2) ∧ Sec ((∃ r, l = (k0 : Int) :: r) ∧ ∃ y : Nat, l.getLast? = some (y : Int)) ∧ Eqn (namedFirst x.toTxt T st) (M.bind (rowL x.toTxt T n l) (fun kids => M.bind (take x.toTxt ⟨#[41]⟩) fun _ => if kids.length = 1 then M.ret k0 else M.bind (takeKind x.toTxt 1) fun t => add ⟨25, t0.lo, t.hi, 0, wordOf x.s t, kids⟩) st3))
      case atStart => exact ⟨_, _, _, hK, ⟨by simp; omega⟩, ⟨⟨_, rfl⟩, k0, rfl⟩, hE⟩
      case round =>
        clear hE hK
        obtain ⟨l, st3, Lk, hK, hn, hr, hE⟩ := hrel
        cases gk with
        | zero => exact absurd (hE.out.trans rfl) hN.out
        | succ n =>
          replace hE : Eqn (namedFirst x.toTxt T st) (M.bind (skip x.toTxt ⟨#[44]⟩) (fun b => M.bind (if b then M.bind T fun k => rowL x.toTxt T n (l ++ [(k : Int)]) else M.ret l) (fun kids => M.bind (take x.toTxt ⟨#[41]⟩) fun _ => if kids.length = 1 then M.ret k0 else M.bind (takeKind x.toTxt 1) fun t => add ⟨25, t0.lo, t.hi, 0, wordOf x.s t, kids⟩)) st3) := ⟨hE.out.trans (M.bind_assoc _ _ _ _)⟩
          obtain ⟨sa, sc, hv⟩ := hK.shape
          subst hv
          go_wp2_with fail
          refine (skip_any x ⟨#[44]⟩).use hK.pw (ns_bind hN.out hE.out) (fun b st4 w4 he hp' hk' => ?_) (fun fl w4 he hk' => ?_)
          rotate_left
          · exact ⟨rfl, by rw [← e0.out]; exact Keeps.toBad (bad_bind hE.out he) (hK.keeps.trans (hk'.weaken hK.sub))⟩
          replace hE := Eqn.mk (eq_bind hE.out he)
          clear he
          replace hK := hK.step hk' hp'
          clear hk' hp'
          try dsimp only [eN, eT, eB, eS, eU, eI, eNB]
          cases b with
          | true =>
            replace hE : Eqn (namedFirst x.toTxt T st) (M.bind T (fun k => M.bind (rowL x.toTxt T n (l ++ [(k : Int)])) (fun kids => M.bind (take x.toTxt ⟨#[41]⟩) fun _ => if kids.length = 1 then M.ret k0 else M.bind (takeKind x.toTxt 1) fun t => add ⟨25, t0.lo, t.hi, 0, wordOf x.s t, kids⟩)) st4) := ⟨hE.out.trans (M.bind_assoc _ _ _ _)⟩
            go_wp2_with fail
            refine (cT.out).use hK.pw (ns_bind hN.out hE.out) (fun k st5 w5 he hp' hk' => ?_) (fun fl w5 he hk' => ?_)
            rotate_left
            · exact ⟨rfl, by rw [← e0.out]; exact Keeps.toBad (bad_bind hE.out he) (hK.keeps.trans (hk'.weaken hK.sub))⟩
            replace hE := Eqn.mk (eq_bind hE.out he)
            clear he
            replace hK := hK.step hk' hp'
            clear hk' hp'
            try dsimp only [eN, eT, eB, eS, eU, eI, eNB]
            go_wp2_with (at_builtin; refine push_kid rfl _ _ rfl (k : Int) (by rfl) (by rfl) hK (by have := hn.out; unfold most at *; omega) ?_; intro v' w6 Lk' hK6)
            clear hK
            go_roundg n
            case measure => omega
            case rel => exact ⟨_, _, _, hK6, ⟨by have := hn.out; simp; omega⟩, ⟨by obtain ⟨⟨r, rfl⟩, _⟩ := hr.out; exact ⟨⟨r ++ [(k : Int)], rfl⟩, k, List.getLast?_concat⟩⟩, hE⟩
          | false =>
            replace hE : Eqn (namedFirst x.toTxt T st) ((M.bind (take x.toTxt ⟨#[41]⟩) fun _ => if l.length = 1 then M.ret k0 else M.bind (takeKind x.toTxt 1) fun t => add ⟨25, t0.lo, t.hi, 0, wordOf x.s t, l⟩) st4) := ⟨hE.out.trans rfl⟩
            go_wp2_with fail
            refine (take_any x ⟨#[41]⟩).use hK.pw (ns_bind hN.out hE.out) (fun t1 st5 w5 he hp' hk' => ?_) (fun fl w5 he hk' => ?_)
            rotate_left
            · exact ⟨rfl, by rw [← e0.out]; exact Keeps.toBad (bad_bind hE.out he) (hK.keeps.trans (hk'.weaken hK.sub))⟩
            replace hE := Eqn.mk (eq_bind hE.out he)
            clear he
            replace hK := hK.step hk' hp'
            clear hk' hp'
            try dsimp only [eN, eT, eB, eS, eU, eI, eNB]
            have hl0 : l[0]? = some (k0 : Int) := by obtain ⟨⟨r, h⟩, _⟩ := hr.out; rw [h]; rfl
            have hrd := hK.reads
            obtain ⟨va2, vc2, hv, hva1, hva2, hva3⟩ := hrd
            injection hv with hv1 hv3 hv2
            clear hv3
            subst hv1
            subst hv2
            obtain ⟨vb, vo, rfl, hvb, hvc⟩ := hva3 (by intro h; rw [h] at hl0; cases hl0)
            have hlc : w5.cell? ⟨vb, vo, none⟩ = some (.int .i64 k0) := by simpa using hvc 0 _ hl0
            have hlen : l.length ≤ 1000000000 + 2 := by have := hn.out; unfold most at hsm; omega
            by_cases h1 : l.length = 1
            · replace hE := Eqn.mk (hE.out.trans (congrFun (if_pos h1) _))
              have hM : Mid x L w _ w5 st5 := ⟨hK.pw, hK.keeps, hK.sub⟩
              have hq : ((l.length : Int) == 1) = true := by rw [h1]; rfl
              have hq2 : (0 : Int) < (l.length : Int) := by omega
              clear h1 hvc hva1 hva2 hva3 hK hl0 hr
              go_wp2_with fail
              rw [← e0.out]
              exact hM.toOk hE.out
            · replace hE := Eqn.mk (hE.out.trans (congrFun (if_neg h1) _))
              have hq : ((l.length : Int) == 1) = false := by rw [beq_eq_false_iff_ne]; omega
              clear h1 hvc hva1 hva2 hva3 hl0 hr hlc
              go_wp2_with fail
              refine (takeKind_any x 1).use hK.pw (ns_bind hN.out hE.out) (fun t st6 w6 he hp' hk' => ?_) (fun fl w6 he hk' => ?_)
              rotate_left
              · exact ⟨rfl, by rw [← e0.out]; exact Keeps.toBad (bad_bind hE.out he) (hK.keeps.trans (hk'.weaken hK.sub))⟩
              replace hE := Eqn.mk (eq_bind hE.out he)
              clear he
              replace hK := hK.step hk' hp'
              clear hk' hp'
              try dsimp only [eN, eT, eB, eS, eU, eI, eNB]
              obtain ⟨LB, hKB, htb, htn⟩ : ∃ LB : Nat → Prop, KL x L w LB (w6.alloc (.cells #[.int .i64 t.kind, .int .i64 t.lo, .int .i64 t.hi] 31)) (.slice (some ⟨vb, vo, none⟩) l.length sc) l st6 ∧ LB w6.heap.size ∧ ∀ k, (Value.slice (some ⟨vb, vo, none⟩) l.length sc).ownBlock = some k → ¬ (L k ∨ k = w6.heap.size) := ⟨_, hK.ownBlock (.cells #[.int .i64 t.kind, .int .i64 t.lo, .int .i64 t.hi] 31), .inr rfl, fun k hk hc => by
                  have h1 := hK.lt hk
                  rcases hc with hc | hc
                  · have := hK.lb k hc; omega
                  · omega⟩
              replace hK := hKB
              clear hKB
              obtain ⟨tk, tl, th⟩ := t
              go_wp2_with fail
              have hS : HeldN w6.heap.size ⟨tk, tl, th⟩ (w6.alloc (.cells #[.int .i64 tk, .int .i64 tl, .int .i64 th] 31)) := ⟨by simp, by simp, by simp⟩
              try dsimp only at hK
              have htn' := Sec.mk htn
              clear htn
              generalize w6.alloc (.cells #[.int .i64 tk, .int .i64 tl, .int .i64 th] 31) = W1 at hK hS ⊢
              generalize w6.heap.size = tb at htb hS htn' ⊢
              have hS1 : HeldN tb ⟨tk, tl, th⟩ W1.drew := hS
              have hS1' := Sec.mk hS1
              clear hS
              unfold HeldN at hS1
              dsimp only at hS1
              have hlf := Sec.mk (add_ok (n := ⟨25, t0.lo, th, 0, wordOf x.s ⟨tk, tl, th⟩, l⟩) (ns_last hN.out hE.out))
              replace hE := Eqn.mk (hE.out.trans hlf.out)
              have hKd := hK.drew
              clear hK
              go_region_held3 (fun w' => w'.cell? ⟨tb, 0, none⟩ = some (.int .i64 tk) ∧ w'.cell? ⟨tb, 1, none⟩ = some (.int .i64 tl) ∧ w'.cell? ⟨tb, 2, none⟩ = some (.int .i64 th))
                (first | with_reducible exact hS3 | with_reducible exact hS4 | with_reducible exact hS1 | fail)
                (first | ((go_at_call 62; refine (pword_any x ⟨tk, tl, th⟩).asks hKd.pw rfl fun w3 hp3 hk3 => ?_; dsimp only [eS]; have hS3 := HeldN.keep (t := ⟨tk, tl, th⟩) hk3 htb hS1'.out; unfold HeldN at hS3; dsimp only at hS3)) | ((go_at_call 56; have hK3 := hKd.step hk3 hp3; refine calls_useOk (add_any x ⟨25, t0.lo, th, 0, wordOf x.s ⟨tk, tl, th⟩, l⟩ (fun i => L i ∨ i = tb) _ _ _ (hK3.pw.weaken (fun i hi => hi.elim (hK3.sub i) (fun e => e ▸ htb))) (hK3.kidsOf htn'.out) (by rw [hlf.out]; exact nofun)) hlf.out fun w4 hp4 hk4 => ?_; dsimp only [eN]; have hS4 := HeldN.keep (t := ⟨tk, tl, th⟩) hk4 (.inr rfl) (HeldN.keep (t := ⟨tk, tl, th⟩) hk3 htb hS1'.out); unfold HeldN at hS4; dsimp only at hS4)))
              have hKK := hK3.keeps.trans (hk4.weaken fun i hi => .inl hi)
              have hPP := hp4.weaken (L' := L) (fun i hi => .inl hi)
              clear hK3 hk4 hp4 hKd hk3 hp3 hS3 hS4 hS1
              go_wp2_with fail
              rw [← e0.out]
              exact hPP.toOk hE.out hKK

end Go.Proofs.Ytkiijfgoaeiphaa

/- named. -/
set_option linter.unusedVariables false
set_option linter.unusedSimpArgs false
namespace Go.Proofs.Ytkiijfgoaeiphaa
open Go.RowKit
attribute [local go_sem ↓] Go.wp_at_zero Go.wp_at_succ

set_option maxRecDepth 100000 in
set_option maxHeartbeats 4000000 in
theorem named_any (x : Cx) (d : Nat) (T : M Nat) (hd : d ≤ 64) (cT : Meets x 75 #[pp x.g, .int .i64 ((d : Int) + 1)] T eN) : Meets x 85 #[pp x.g, .int .i64 d] (named x.toTxt T) eN := by
  have cN := Sec.mk (namedFirst_any x d T hd cT)
  clear cT
  intro L w st hp hns
  have hE : Eqn ((named x.toTxt T) st) ((named x.toTxt T) st) := ⟨rfl⟩
  have hN := Sec.mk hns
  have hM := Mid.start hp
  clear hns
  generalize hPost : PostM x L eN w ((named x.toTxt T) st) = Post
  have e0 := Sec.mk hPost
  clear hPost
  have flo := run_lo
  have fhi := run_hi
  go_enter Try.func85, Try.ntmps85
  go_wp2_with fail
  refine (cN.out).use hM.pw (ns_bind hN.out hE.out) (fun p0 st0 w0 he hp' hk' => ?_) (fun fl w0 he hk' => ?_)
  rotate_left
  · exact ⟨rfl, by rw [← e0.out]; exact hM.toBad (bad_bind hE.out he) hk'⟩
  replace hE := Eqn.mk (eq_bind hE.out he)
  clear he
  replace hM := hM.step hk' hp'
  clear hk' hp'
  try dsimp only [eN, eT, eB, eS, eU, eI, eNB]
  go_wp2_with fail
  go_loopg [5, 6] (x.toks.length + 1) (fun n lv rv wr => ∃ (part : Nat) (st1 : PSt), lv = .int .i64 part ∧ Mid x L w L wr st1 ∧ Eqn (named x.toTxt T st) (namedL x.toTxt n part st1))
  case atStart => exact ⟨p0, st0, rfl, hM, hE⟩
  case round =>
    clear hE hM
    obtain ⟨part, st1, rfl, hM, hE⟩ := hrel
    cases gk with
    | zero => exact absurd (hE.out.trans rfl) hN.out
    | succ n =>
      cases hb : isK x.toTxt 1 st1 with
      | true =>
        replace hE := Eqn.mk (hE.out.trans (if_pos hb))
        have hB := Sec.mk hb
        clear hb
        go_wp2_with fail
        refine (kind_any x 1).asks hM.pw hB.out fun w' hp' hk' => ?_
        replace hM := hM.step hk' hp'
        clear hk' hp'
        try dsimp only [eN, eT, eB, eS, eU, eI, eNB]
        go_wp2_with fail
        refine (next_any x).use hM.pw (ns_bind hN.out hE.out) (fun t st2 w2 he hp' hk' => ?_) (fun fl w2 he hk' => ?_)
        rotate_left
        · exact ⟨rfl, by rw [← e0.out]; exact hM.toBad (bad_bind hE.out he) hk'⟩
        replace hE := Eqn.mk (eq_bind hE.out he)
        clear he
        replace hM := hM.step hk' hp'
        clear hk' hp'
        try dsimp only [eN, eT, eB, eS, eU, eI, eNB]
        obtain ⟨nf, h1, h2⟩ := fromOf_some (ns_bind hN.out hE.out)
        replace hE := Eqn.mk (eq_bind hE.out h2)
        have hF := Sec.mk h1
        clear h1 h2
        obtain ⟨LB, hMB, htb, htw⟩ : ∃ LB : Nat → Prop, Mid x L w LB (w2.alloc (.cells #[.int .i64 t.kind, .int .i64 t.lo, .int .i64 t.hi] 31)) st2 ∧ LB w2.heap.size ∧ w2.heap.size < (w2.alloc (.cells #[.int .i64 t.kind, .int .i64 t.lo, .int .i64 t.hi] 31)).heap.size := ⟨_, hM.own (.cells #[.int .i64 t.kind, .int .i64 t.lo, .int .i64 t.hi] 31), .inr rfl, by simp⟩
        replace hM := hMB
        clear hMB
        obtain ⟨tk, tl, th⟩ := t
        go_wp2_with fail
        have hS : HeldN w2.heap.size ⟨tk, tl, th⟩ (w2.alloc (.cells #[.int .i64 tk, .int .i64 tl, .int .i64 th] 31)) := ⟨by simp, by simp, by simp⟩
        try dsimp only at hM htw
        generalize w2.alloc (.cells #[.int .i64 tk, .int .i64 tl, .int .i64 th] 31) = W1 at hM hS htw ⊢
        generalize w2.heap.size = tb at htb hS htw ⊢
        have hS1 : HeldN tb ⟨tk, tl, th⟩ W1.drew := hS
        have hS1' := Sec.mk hS1
        clear hS
        unfold HeldN at hS1
        dsimp only at hS1
        have hlf := Sec.mk (add_ok (n := ⟨25, nf.lo, th, 0, wordOf x.s ⟨tk, tl, th⟩, [(part : Int)]⟩) (ns_bind hN.out hE.out))
        replace hE := Eqn.mk (eq_bind hE.out hlf.out)
        have hMB := (hM.own (.cells #[.int .i64 (part : Int)] 3)).drew
        have hSB : Sec (HeldN tb ⟨tk, tl, th⟩ (W1.alloc (.cells #[.int .i64 (part : Int)] 3)).drew) := ⟨HeldN.alloc (o := (.cells #[.int .i64 (part : Int)] 3)) (hM.pw.bound _ htb) hS1'.out⟩
        have hSB0 := hSB.out
        unfold HeldN at hSB0
        dsimp only at hSB0
        have hnb : ¬ LB W1.heap.size := fun hc => Nat.lt_irrefl _ (hM.pw.bound _ hc)
        go_region_held3 (fun w' => w'.cell? ⟨tb, 0, none⟩ = some (.int .i64 tk) ∧ w'.cell? ⟨tb, 1, none⟩ = some (.int .i64 tl) ∧ w'.cell? ⟨tb, 2, none⟩ = some (.int .i64 th))
          (first | with_reducible exact hS3 | with_reducible exact hS3a _ | with_reducible exact hS4 | with_reducible exact hS1 | with_reducible exact hSB0 | with_reducible exact hS5 | with_reducible exact hS6 | fail)
          (first | ((go_at_call 68; refine (from_still hM.pw.drew hF.out).mono ?_; rintro e wz ⟨rfl, h⟩; obtain rfl := h.symm)) | ((go_at_call 68; refine (from_still hp3 hF.out).mono ?_; rintro e wz ⟨rfl, h⟩; obtain rfl := h.symm)) | ((go_at_call 68; refine (from_still (hp3.alloc _) hF.out).mono ?_; rintro e wz ⟨rfl, h⟩; obtain rfl := h.symm)) | ((go_at_call 68; refine (from_still hMB.pw hF.out).mono ?_; rintro e wz ⟨rfl, h⟩; obtain rfl := h.symm)) | ((go_at_call 68; refine (from_still hp4 hF.out).mono ?_; rintro e wz ⟨rfl, h⟩; obtain rfl := h.symm)) | ((go_at_call 62; refine (pword_any x ⟨tk, tl, th⟩).asks hM.pw.drew rfl fun w3 hp3 hk3 => ?_; dsimp only [eS]; have hS3 := HeldN.keep (t := ⟨tk, tl, th⟩) hk3 htb hS1'.out; have hS3a := fun o => HeldN.alloc (o := o) (hp3.bound _ htb) hS3; unfold HeldN at hS3 hS3a; dsimp only at hS3 hS3a)) | ((go_at_call 62; refine (pword_any x ⟨tk, tl, th⟩).asks hMB.pw rfl fun w4 hp4 hk4 => ?_; dsimp only [eS]; have hS4 := HeldN.keep (t := ⟨tk, tl, th⟩) hk4 (.inl htb) hSB.out; have hkd4 := Sec.mk (kids_at (l := [(part : Int)]) (L := LB) ((hk4.mine W1.heap.size (.inr rfl)).trans (heap_alloc_new W1 _)) (by simp) hnb); unfold HeldN at hS4; dsimp only at hS4)) | ((go_at_call 56; refine calls_useOk (add_any x ⟨25, nf.lo, th, 0, wordOf x.s ⟨tk, tl, th⟩, [(part : Int)]⟩ LB _ _ _ (hp3.alloc _) (kids_lit w3 LB hp3.bound [(part : Int)] (by simp)) (by rw [hlf.out]; exact nofun)) hlf.out fun w5 hp5 hk5 => ?_; dsimp only [eN]; have hS5 := HeldN.keep (t := ⟨tk, tl, th⟩) hk5 htb (HeldN.alloc (hp3.bound _ htb) (HeldN.keep (t := ⟨tk, tl, th⟩) hk3 htb hS1'.out)); have hMz := (((hM.drew.step hk3 hp3).alloc _).step hk5 hp5).back; unfold HeldN at hS5; dsimp only at hS5)) | ((go_at_call 56; refine calls_useOk (add_any x ⟨25, nf.lo, th, 0, wordOf x.s ⟨tk, tl, th⟩, [(part : Int)]⟩ LB _ _ _ (hp4.weaken fun i hi => .inl hi) hkd4.out (by rw [hlf.out]; exact nofun)) hlf.out fun w6 hp6 hk6 => ?_; dsimp only [eN]; have hS6 := HeldN.keep (t := ⟨tk, tl, th⟩) hk6 htb (HeldN.keep (t := ⟨tk, tl, th⟩) hk4 (.inl htb) hSB.out); have hMz := (((hMB.step hk4 hp4).less (fun i hi => .inl hi) hM.sub).step hk6 hp6).back; unfold HeldN at hS6; dsimp only at hS6)))
        all_goals
          go_wp2_with fail
          go_roundg n
          case measure => omega
          case rel => exact ⟨_, _, rfl, hMz, hE⟩
      | false =>
        replace hE := Eqn.mk (hE.out.trans (if_neg (nott hb)))
        have hB := Sec.mk hb
        clear hb
        go_wp2_with fail
        refine (kind_any x 1).asks hM.pw hB.out fun w' hp' hk' => ?_
        replace hM := hM.step hk' hp'
        clear hk' hp'
        try dsimp only [eN, eT, eB, eS, eU, eI, eNB]
        go_wp2_with fail
        rw [← e0.out]
        exact hM.toOk hE.out

end Go.Proofs.Ytkiijfgoaeiphaa

/- pair. -/
set_option linter.unusedVariables false
set_option linter.unusedSimpArgs false
namespace Go.Proofs.Ytkiijfgoaeiphaa
open Go.RowKit
attribute [local go_sem ↓] Go.wp_at_zero Go.wp_at_succ

set_option maxRecDepth 100000 in
set_option maxHeartbeats 4000000 in
theorem pair_any (x : Cx) (d : Nat) (T : M Nat) (hd : d ≤ 64) (cT : Meets x 75 #[pp x.g, .int .i64 ((d : Int) + 1)] T eN) : Meets x 79 #[pp x.g, .int .i64 d] (pair x.toTxt T) eN := by
  have cN := Sec.mk (named_any x d T hd cT)
  clear cT
  intro L w st hp hns
  have hsm := hp.small
  have hE : Eqn ((pair x.toTxt T) st) ((pair x.toTxt T) st) := ⟨rfl⟩
  have hN := Sec.mk hns
  have hM := Mid.start hp
  clear hns
  generalize hPost : PostM x L eN w ((pair x.toTxt T) st) = Post
  have e0 := Sec.mk hPost
  clear hPost
  have flo := run_lo
  have fhi := run_hi
  go_enter Try.func79, Try.ntmps79
  go_wp2_with fail
  refine (cN.out).use hM.pw (ns_bind hN.out hE.out) (fun k0 st2 w2 he hp' hk' => ?_) (fun fl w2 he hk' => ?_)
  rotate_left
  · exact ⟨rfl, by rw [← e0.out]; exact hM.toBad (bad_bind hE.out he) hk'⟩
  replace hE := Eqn.mk (eq_bind hE.out he)
  clear he
  replace hM := hM.step hk' hp'
  clear hk' hp'
  try dsimp only [eN, eT, eB, eS, eU, eI, eNB]
  go_wp2_with fail
  have hK := KL.one (w := w) hp hM.keeps hM.pw (k0 : Int)
  clear hM
  go_wp2_with fail
  go_loopg [5] (x.toks.length + 1) (fun n v wr => ∃ l st3 Lk, KL x L w Lk wr v l st3 ∧ Sec (l.length + n = x.toks.length + 2) ∧ Sec ((∃ r, l = (k0 : Int) :: r) ∧ ∃ y : Nat, l.getLast? = some (y : Int)) ∧ Eqn (pair x.toTxt T st) (M.bind (pairL x.toTxt T n l) (fun kids => if kids.length = 1 then M.ret k0 else M.bind (fromOf k0) fun f => M.bind (toOf (lastOf kids)) fun t => add ⟨26, f, t, 0, ⟨#[]⟩, kids⟩) st3))
  case atStart => exact ⟨_, _, _, hK, ⟨by simp; omega⟩, ⟨⟨_, rfl⟩, k0, rfl⟩, hE⟩
  case round =>
    clear hE hK
    obtain ⟨l, st3, Lk, hK, hn, hr, hE⟩ := hrel
    cases gk with
    | zero => exact absurd (hE.out.trans rfl) hN.out
    | succ n =>
      replace hE : Eqn (pair x.toTxt T st) (M.bind (skip x.toTxt ⟨#[42]⟩) (fun b => M.bind (if b then M.bind (named x.toTxt T) fun k => pairL x.toTxt T n (l ++ [(k : Int)]) else M.ret l) (fun kids => if kids.length = 1 then M.ret k0 else M.bind (fromOf k0) fun f => M.bind (toOf (lastOf kids)) fun t => add ⟨26, f, t, 0, ⟨#[]⟩, kids⟩)) st3) := ⟨hE.out.trans (M.bind_assoc _ _ _ _)⟩
      obtain ⟨sa, sc, hv⟩ := hK.shape
      subst hv
      go_wp2_with fail
      refine (skip_any x ⟨#[42]⟩).use hK.pw (ns_bind hN.out hE.out) (fun b st4 w4 he hp' hk' => ?_) (fun fl w4 he hk' => ?_)
      rotate_left
      · exact ⟨rfl, by rw [← e0.out]; exact Keeps.toBad (bad_bind hE.out he) (hK.keeps.trans (hk'.weaken hK.sub))⟩
      replace hE := Eqn.mk (eq_bind hE.out he)
      clear he
      replace hK := hK.step hk' hp'
      clear hk' hp'
      try dsimp only [eN, eT, eB, eS, eU, eI, eNB]
      cases b with
      | true =>
        replace hE : Eqn (pair x.toTxt T st) (M.bind (named x.toTxt T) (fun k => M.bind (pairL x.toTxt T n (l ++ [(k : Int)])) (fun kids => if kids.length = 1 then M.ret k0 else M.bind (fromOf k0) fun f => M.bind (toOf (lastOf kids)) fun t => add ⟨26, f, t, 0, ⟨#[]⟩, kids⟩)) st4) := ⟨hE.out.trans (M.bind_assoc _ _ _ _)⟩
        go_wp2_with fail
        refine (cN.out).use hK.pw (ns_bind hN.out hE.out) (fun k st5 w5 he hp' hk' => ?_) (fun fl w5 he hk' => ?_)
        rotate_left
        · exact ⟨rfl, by rw [← e0.out]; exact Keeps.toBad (bad_bind hE.out he) (hK.keeps.trans (hk'.weaken hK.sub))⟩
        replace hE := Eqn.mk (eq_bind hE.out he)
        clear he
        replace hK := hK.step hk' hp'
        clear hk' hp'
        try dsimp only [eN, eT, eB, eS, eU, eI, eNB]
        go_wp2_with (at_builtin; refine push_kid rfl _ _ rfl (k : Int) (by rfl) (by rfl) hK (by have := hn.out; unfold most at *; omega) ?_; intro v' w6 Lk' hK6)
        clear hK
        go_roundg n
        case measure => omega
        case rel => exact ⟨_, _, _, hK6, ⟨by have := hn.out; simp; omega⟩, ⟨by obtain ⟨⟨r, rfl⟩, _⟩ := hr.out; exact ⟨⟨r ++ [(k : Int)], rfl⟩, k, List.getLast?_concat⟩⟩, hE⟩
      | false =>
        replace hE : Eqn (pair x.toTxt T st) ((if l.length = 1 then M.ret k0 else M.bind (fromOf k0) fun f => M.bind (toOf (lastOf l)) fun t => add ⟨26, f, t, 0, ⟨#[]⟩, l⟩) st4) := ⟨hE.out.trans rfl⟩
        have hl0 : l[0]? = some (k0 : Int) := by obtain ⟨⟨r, h⟩, _⟩ := hr.out; rw [h]; rfl
        have hrd := hK.reads
        obtain ⟨va2, vc2, hv, hva1, hva2, hva3⟩ := hrd
        injection hv with hv1 hv3 hv2
        clear hv3
        subst hv1
        subst hv2
        obtain ⟨vb, vo, rfl, hvb, hvc⟩ := hva3 (by intro h; rw [h] at hl0; cases hl0)
        have hlc : w4.cell? ⟨vb, vo, none⟩ = some (.int .i64 k0) := by simpa using hvc 0 _ hl0
        have hlen : l.length ≤ 1000000000 + 2 := by have := hn.out; unfold most at hsm; omega
        have hM : Mid x L w _ w4 st4 := ⟨hK.pw, hK.keeps, hK.sub⟩
        by_cases h1 : l.length = 1
        · replace hE := Eqn.mk (hE.out.trans (congrFun (if_pos h1) _))
          have hq : ((l.length : Int) == 1) = true := by rw [h1]; rfl
          have hq2 : (0 : Int) < (l.length : Int) := by omega
          clear h1 hvc hva1 hva2 hva3 hK hl0 hr
          go_wp2_with fail
          rw [← e0.out]
          exact hM.toOk hE.out
        · replace hE := Eqn.mk (hE.out.trans (congrFun (if_neg h1) _))
          have hq : ((l.length : Int) == 1) = false := by rw [beq_eq_false_iff_ne]; omega
          have hpos : 0 < l.length := by cases l with
            | nil => cases hl0
            | cons a r => simp
          have hq2 : (0 : Int) < (l.length : Int) := by omega
          have hq3 : (1 : Int) ≤ (l.length : Int) := by omega
          have hq4 : (l.length : Int) - 1 < (l.length : Int) := by omega
          have hwr : IntKind.i64.wrap ((l.length : Int) - 1) = (l.length : Int) - 1 := IntWalk.i64_in _ (by omega)
          obtain ⟨nf, h1, h2⟩ := fromOf_some (ns_bind hN.out hE.out)
          replace hE := Eqn.mk (eq_bind hE.out h2)
          have hF := Sec.mk h1
          clear h1 h2
          obtain ⟨nt, h1, h2⟩ := toOf_some (ns_bind hN.out hE.out)
          replace hE := Eqn.mk (eq_bind hE.out h2)
          have hT := Sec.mk h1
          clear h1 h2
          have hll : ∃ y : Nat, lastOf l = y ∧ w4.cell? ⟨vb, vo + (l.length - 1), none⟩ = some (.int .i64 y) := by
            obtain ⟨_, y, hy⟩ := hr.out
            refine ⟨y, by simp [lastOf, hy], ?_⟩
            exact hvc _ _ (by rw [← List.getLast?_eq_getElem?, hy])
          obtain ⟨y, hy, hlast⟩ := hll
          rw [hy] at hT
          have hkd := Sec.mk hK.kids
          clear hvc hva1 hva2 hva3 hK hl0 hr hy
          go_wp2_with fail
          refine wp_tail 16 (by kernel_rfl) (by kernel_rfl) fun W hc hf hz hW => ?_
          replace hM := hM.drew
          have hkd2 : KidsIn w4.drew L _ l := hkd.out
          rw [← hW.out] at hM hkd2
          replace hkd := Sec.mk hkd2
          clear hkd2
          clear hf hz hW
          simp only [List.take_succ_cons, List.take_zero, List.drop_succ_cons, List.drop_zero]
          iterate 5 still_step
          still_call (from_still hM.pw hF.out)
          iterate 7 still_step
          still_call (to_still hM.pw hT.out)
          iterate 2 still_step
          refine wpStill_nil ?_
          clear hc hlc hlast hq hq2 hq3 hq4 hF hT hpos hwr
          go_wp2_with fail
          refine calls_useM (add_any x ⟨26, nf.lo, nt.hi, 0, ⟨#[]⟩, l⟩ L _ _ _ (hM.pw.weaken hM.sub) hkd.out (ns_last hN.out hE.out)) (fun kk st' w' he hp' hk' => ?_) (fun fl w' he hk' => ?_)
          rotate_left
          · exact ⟨rfl, by rw [← e0.out]; exact Keeps.toBad (hE.out.trans he) (hM.keeps.trans hk')⟩
          replace hE := Eqn.mk (hE.out.trans he)
          try dsimp only [eN]
          go_wp2_with fail
          rw [← e0.out]
          exact hp'.toOk hE.out (hM.keeps.trans hk')

end Go.Proofs.Ytkiijfgoaeiphaa

/- typ, to every depth. -/
set_option linter.unusedVariables false
set_option linter.unusedSimpArgs false
namespace Go.Proofs.Ytkiijfgoaeiphaa
open Go.RowKit
attribute [local go_sem ↓] Go.wp_at_zero Go.wp_at_succ

def typS (x : Txt) (T : M Nat) : M Nat := M.bind (pair x T) fun left => M.bind (skip x ⟨#[45, 62]⟩) fun b =>
  if b then M.bind T fun right => M.bind (fromOf left) fun f => M.bind (toOf right) fun t => add ⟨27, f, t, 0, ⟨#[]⟩, [(left : Int), (right : Int)]⟩
  else M.ret left
theorem typ_any (x : Cx) (d : Nat) (T : M Nat) (hd : d ≤ 64) (cT : Meets x 75 #[pp x.g, .int .i64 ((d : Int) + 1)] T eN) : Meets x 75 #[pp x.g, .int .i64 d] (typS x.toTxt T) eN := by
  have cP := Sec.mk (pair_any x d T hd cT)
  have cT := Sec.mk cT
  intro L w st hp hns
  have hE : Eqn ((typS x.toTxt T) st) ((typS x.toTxt T) st) := ⟨rfl⟩
  have hN := Sec.mk hns
  have hM := Mid.start hp
  clear hns
  generalize hPost : PostM x L eN w ((typS x.toTxt T) st) = Post
  have e0 := Sec.mk hPost
  clear hPost
  have flo := run_lo
  have fhi := run_hi
  go_enter Try.func75, Try.ntmps75
  go_wp2_with fail
  refine (enter_any x d (by omega)).useOk (a := ()) (st' := st) hM.pw (by simp only [enter, if_neg (show ¬ 64 < d by omega)]; rfl) fun w' hp' hk' => ?_
  replace hM := hM.step hk' hp'
  clear hk' hp'
  try dsimp only [eN, eT, eB, eS, eU, eI, eNB]
  go_wp2_with fail
  refine (cP.out).use hM.pw (ns_bind hN.out hE.out) (fun left st1 w1 he hp' hk' => ?_) (fun fl w1 he hk' => ?_)
  rotate_left
  · exact ⟨rfl, by rw [← e0.out]; exact hM.toBad (bad_bind hE.out he) hk'⟩
  replace hE := Eqn.mk (eq_bind hE.out he)
  clear he
  replace hM := hM.step hk' hp'
  clear hk' hp'
  try dsimp only [eN, eT, eB, eS, eU, eI, eNB]
  go_wp2_with fail
  refine (skip_any x ⟨#[45, 62]⟩).use hM.pw (ns_bind hN.out hE.out) (fun b st2 w2 he hp' hk' => ?_) (fun fl w2 he hk' => ?_)
  rotate_left
  · exact ⟨rfl, by rw [← e0.out]; exact hM.toBad (bad_bind hE.out he) hk'⟩
  replace hE := Eqn.mk (eq_bind hE.out he)
  clear he
  replace hM := hM.step hk' hp'
  clear hk' hp'
  try dsimp only [eN, eT, eB, eS, eU, eI, eNB]
  cases b with
  | true =>
    replace hE := Eqn.mk (hE.out.trans (congrFun (if_pos rfl) _))
    go_wp2_with fail
    refine (cT.out).use hM.pw (ns_bind hN.out hE.out) (fun right st3 w3 he hp' hk' => ?_) (fun fl w3 he hk' => ?_)
    rotate_left
    · exact ⟨rfl, by rw [← e0.out]; exact hM.toBad (bad_bind hE.out he) hk'⟩
    replace hE := Eqn.mk (eq_bind hE.out he)
    clear he
    replace hM := hM.step hk' hp'
    clear hk' hp'
    try dsimp only [eN, eT, eB, eS, eU, eI, eNB]
    go_wp2_with fail
    obtain ⟨nf, h1, h2⟩ := fromOf_some (ns_bind hN.out hE.out)
    refine (from_still hM.pw h1).mono ?_
    rintro e w1 ⟨rfl, h⟩
    obtain rfl := h.symm
    replace hE := Eqn.mk (eq_bind hE.out h2)
    clear h1 h2
    go_wp2_with fail
    obtain ⟨nt, h1, h2⟩ := toOf_some (ns_bind hN.out hE.out)
    refine (to_still hM.pw h1).mono ?_
    rintro e w1 ⟨rfl, h⟩
    obtain rfl := h.symm
    replace hE := Eqn.mk (eq_bind hE.out h2)
    clear h1 h2
    go_wp2_with fail
    refine calls_useM (add_any x ⟨27, nf.lo, nt.hi, 0, ⟨#[]⟩, [(left : Int), (right : Int)]⟩ _ _ _ _ (hM.pw.alloc _) (kids_lit _ _ hM.pw.bound [(left : Int), (right : Int)] (by simp)) (ns_last hN.out hE.out)) (fun k st' w' he hp' hk' => ?_) (fun fl w' he hk' => ?_)
    rotate_left
    · exact ⟨rfl, by rw [← e0.out]; exact (hM.alloc _).toBad (hE.out.trans he) hk'⟩
    replace hE := Eqn.mk (hE.out.trans he)
    clear he
    replace hM := (hM.alloc _).step hk' hp'
    clear hk' hp'
    try dsimp only [eN]
    go_wp2_with fail
    rw [← e0.out]
    exact hM.toOk hE.out
  | false =>
    replace hE := Eqn.mk (hE.out.trans (congrFun (if_neg Bool.false_ne_true) _))
    go_wp2_with fail
    rw [← e0.out]
    exact hM.toOk hE.out
theorem typ_all (x : Cx) : ∀ (k d : Nat), d + k = 65 → Meets x 75 #[pp x.g, .int .i64 d] (typK x.toTxt k) eN := by
  intro k
  induction k with
  | zero =>
    intro d hd
    obtain rfl : d = 65 := by omega
    exact typ0_any x
  | succ k ih =>
    intro d hd
    have h1 := ih (d + 1) (by omega)
    rw [show ((d + 1 : Nat) : Int) = (d : Int) + 1 from by omega] at h1
    exact typ_any x d (typK x.toTxt k) (by omega) h1
end Go.Proofs.Ytkiijfgoaeiphaa

/- typeCase. -/
set_option linter.unusedVariables false
set_option linter.unusedSimpArgs false
namespace Go.Proofs.Ytkiijfgoaeiphaa
open Go.RowKit
attribute [local go_sem ↓] Go.wp_at_zero Go.wp_at_succ

set_option maxRecDepth 100000 in
set_option maxHeartbeats 4000000 in
theorem typeCase_any (x : Cx) : Meets x 65 #[pp x.g] (typeCase x.toTxt) eN := by
  have cT : Sec (Meets x 75 #[pp x.g, .int .i64 0] (typK x.toTxt 65) eN) := ⟨typ_all x 65 0 rfl⟩
  intro L w st hp hns
  have hlbw := hp.bound
  have hgw := hp.glt
  have hE : Eqn ((typeCase x.toTxt) st) ((typeCase x.toTxt) st) := ⟨rfl⟩
  have hN := Sec.mk hns
  have hM := Mid.start hp
  clear hns
  generalize hPost : PostM x L eN w ((typeCase x.toTxt) st) = Post
  have e0 := Sec.mk hPost
  clear hPost
  have flo := run_lo
  have fhi := run_hi
  go_enter Try.func65, Try.ntmps65
  go_wp2_with fail
  refine (takeKind_any x 2).use hM.pw (ns_bind hN.out hE.out) (fun t st2 w2 he hp' hk' => ?_) (fun fl w2 he hk' => ?_)
  rotate_left
  · exact ⟨rfl, by rw [← e0.out]; exact hM.toBad (bad_bind hE.out he) hk'⟩
  replace hE := Eqn.mk (eq_bind hE.out he)
  clear he
  replace hM := hM.step hk' hp'
  clear hk' hp'
  try dsimp only [eN, eT, eB, eS, eU, eI, eNB]
  obtain ⟨LB, hMB, htb, htw⟩ : ∃ LB : Nat → Prop, Mid x L w LB (w2.alloc (.cells #[.int .i64 t.kind, .int .i64 t.lo, .int .i64 t.hi] 31)) st2 ∧ LB w2.heap.size ∧ w2.heap.size < (w2.alloc (.cells #[.int .i64 t.kind, .int .i64 t.lo, .int .i64 t.hi] 31)).heap.size := ⟨_, hM.own (.cells #[.int .i64 t.kind, .int .i64 t.lo, .int .i64 t.hi] 31), .inr rfl, by simp⟩
  replace hM := hMB
  clear hMB
  obtain ⟨tk, tl, th⟩ := t
  go_wp2_with fail
  have hS : HeldN w2.heap.size ⟨tk, tl, th⟩ (w2.alloc (.cells #[.int .i64 tk, .int .i64 tl, .int .i64 th] 31)) := ⟨by simp, by simp, by simp⟩
  try dsimp only at hM htw
  generalize w2.alloc (.cells #[.int .i64 tk, .int .i64 tl, .int .i64 th] 31) = W1 at hM hS htw ⊢
  generalize w2.heap.size = tb at htb hS htw ⊢
  have hS1 : HeldN tb ⟨tk, tl, th⟩ W1.drew := hS
  have hMB := (hM.own (.cells #[.int .i64 0, .int .i64 0, .int .i64 0, .int .i64 0, .string ⟨#[]⟩, .slice none 0 0] 53)).drew
  have hSB : Sec (HeldN tb ⟨tk, tl, th⟩ (W1.alloc (.cells #[.int .i64 0, .int .i64 0, .int .i64 0, .int .i64 0, .string ⟨#[]⟩, .slice none 0 0] 53)).drew) := ⟨HeldN.alloc (o := (.cells #[.int .i64 0, .int .i64 0, .int .i64 0, .int .i64 0, .string ⟨#[]⟩, .slice none 0 0] 53)) (hM.pw.bound _ htb) hS⟩
  have hS1' := Sec.mk hS1
  have hSB0 := hSB.out
  clear hS
  unfold HeldN at hS1 hSB0
  dsimp only at hS1 hSB0
  go_region_held3 (fun w' => w'.cell? ⟨tb, 0, none⟩ = some (.int .i64 tk) ∧ w'.cell? ⟨tb, 1, none⟩ = some (.int .i64 tl) ∧ w'.cell? ⟨tb, 2, none⟩ = some (.int .i64 th))
    (first | with_reducible exact hS3 | with_reducible exact hS3a _ | with_reducible exact hS4 | with_reducible exact hS1 | with_reducible exact hSB0 | with_reducible exact hS4s _ _ _ _ _ _ | fail)
    (first | ((go_at_call 62; refine (pword_any x ⟨tk, tl, th⟩).asks hM.pw.drew rfl fun w3 hp3 hk3 => ?_; dsimp only [eS]; have hS3 := HeldN.keep (t := ⟨tk, tl, th⟩) hk3 htb hS1'.out; have hS3a := fun o => HeldN.alloc (o := o) (hp3.bound _ htb) hS3; unfold HeldN at hS3 hS3a; dsimp only at hS3 hS3a)) | ((go_at_call 62; refine (pword_any x ⟨tk, tl, th⟩).asks hMB.pw rfl fun w4 hp4 hk4 => ?_; dsimp only [eS]; obtain ⟨cn0, cn1, cn2, cn3, cn4, cn5, cnf⟩ := ndBox_at (by simp) (hk4.mine W1.heap.size (.inr (by simp))); have hS4 := HeldN.keep (t := ⟨tk, tl, th⟩) hk4 (.inl htb) hSB.out; have hS4s := HeldN.fars (nb := W1.heap.size) (by omega) hS4; unfold HeldN at hS4 hS4s; dsimp only at hS4 hS4s)))
  · have hX := NBox.made (hM.drew.step hk3 hp3) hlbw hgw 3 tl th 0 (wordOf x.s ⟨tk, tl, th⟩) (.slice none 0 0)
    clear hk3 hp3 hS3 hS3a hS1 hSB hSB0 hMB hS1' hM
    revert hX
    generalize w3.heap.size = nb
    intro hX
    obtain ⟨LN, hX⟩ : ∃ LN : Nat → Prop, NBox x L w LN _ _ nb _ _ _ _ _ _ := ⟨_, hX⟩
    go_wp2_with fail
    refine (skip_any x ⟨#[111, 102]⟩).use hX.mid.pw (ns_bind hN.out hE.out) (fun b st4 w4 he hp' hk' => ?_) (fun fl w4 he hk' => ?_)
    rotate_left
    · exact ⟨rfl, by rw [← e0.out]; exact hX.mid.toBad (bad_bind hE.out he) hk'⟩
    replace hE := Eqn.mk (eq_bind hE.out he)
    clear he
    replace hX := hX.step hk' hp'
    clear hk' hp'
    try dsimp only [eN, eT, eB, eS, eU, eI, eNB]
    cases b with
    | true =>
      replace hE := Eqn.mk (hE.out.trans (congrFun (if_pos rfl) _))
      go_wp2_with fail
      refine (cT.out).use hX.mid.pw (ns_bind hN.out hE.out) (fun part st3 w5 he hp' hk' => ?_) (fun fl w5 he hk' => ?_)
      rotate_left
      · exact ⟨rfl, by rw [← e0.out]; exact hX.mid.toBad (bad_bind hE.out he) hk'⟩
      replace hE := Eqn.mk (eq_bind hE.out he)
      clear he
      replace hX := hX.step hk' hp'
      clear hk' hp'
      try dsimp only [eN, eT, eB, eS, eU, eI, eNB]
      go_wp2_with fail
      obtain ⟨nt, h1, h2⟩ := toOf_some (ns_bind hN.out hE.out)
      refine (to_still hX.mid.pw h1).mono ?_
      rintro e w6 ⟨rfl, h⟩
      obtain rfl := h.symm
      replace hE := Eqn.mk (eq_bind hE.out h2)
      clear h1 h2
      have hXf := ((hX.setHi nt.hi).alloc (.cells #[.int .i64 (part : Int)] 3)).setKids (.slice (some ⟨w5.heap.size, 0, none⟩) 1 1)
      have hkd := Sec.mk (kids_box (w5.setCell ⟨nb, 2, none⟩ (.int .i64 nt.hi)) LN (hX.setHi nt.hi).mid.pw.bound [(part : Int)] (by simp) nb 5 (.slice (some ⟨w5.heap.size, 0, none⟩) 1 1) hX.own w5.heap.size (by simp))
      have hXs := Sec.mk hXf
      have m5 := ((hX.setHi nt.hi).alloc (.cells #[.int .i64 (part : Int)] 3)).c5
      have mf := ((hX.setHi nt.hi).alloc (.cells #[.int .i64 (part : Int)] 3)).fz 5
      obtain ⟨_, _, _, _, _, d0, d1, d2, d3, d4, d5, _⟩ := hXf
      have hX' := Sec.mk hX
      obtain ⟨_, _, _, _, _, c0, c1, c2, c3, c4, c5, fz⟩ := hX
      go_wp2_with fail
      refine calls_useM (add_any x ⟨3, tl, nt.hi, 0, wordOf x.s ⟨tk, tl, th⟩, [(part : Int)]⟩ _ _ _ _ hXs.out.mid.pw hkd.out (ns_last hN.out hE.out)) (fun kk st' w' he hp' hk' => ?_) (fun fl w' he hk' => ?_)
      rotate_left
      · exact ⟨rfl, by rw [← e0.out]; exact hXs.out.mid.toBad (hE.out.trans he) hk'⟩
      replace hE := Eqn.mk (hE.out.trans he)
      clear he
      have hM := hXs.out.mid.step hk' hp'
      clear hk' hp'
      try dsimp only [eN]
      go_wp2_with fail
      rw [← e0.out]
      exact hM.toOk hE.out
    | false =>
      replace hE := Eqn.mk (hE.out.trans (congrFun (if_neg Bool.false_ne_true) _))
      have hX' := Sec.mk hX
      obtain ⟨_, _, _, _, _, c0, c1, c2, c3, c4, c5, fz⟩ := hX
      go_wp2_with fail
      refine calls_useM (add_any x ⟨3, tl, th, 0, wordOf x.s ⟨tk, tl, th⟩, []⟩ _ _ _ _ hX'.out.mid.pw (kids_nil _ _) (ns_last hN.out hE.out)) (fun kk st' w' he hp' hk' => ?_) (fun fl w' he hk' => ?_)
      rotate_left
      · exact ⟨rfl, by rw [← e0.out]; exact hX'.out.mid.toBad (hE.out.trans he) hk'⟩
      replace hE := Eqn.mk (hE.out.trans he)
      clear he
      have hM := hX'.out.mid.step hk' hp'
      clear hk' hp'
      try dsimp only [eN]
      go_wp2_with fail
      rw [← e0.out]
      exact hM.toOk hE.out
  · have hX := NBox.filled (nb := W1.heap.size) (hMB.step hk4 hp4) hlbw hgw (.inr (by simp)) hM.keeps.size 3 tl th 0 (wordOf x.s ⟨tk, tl, th⟩) (.slice none 0 0) ⟨_, _, _, _, _, _, cn0, cn1, cn2, cn3, cn4, cn5, cnf⟩
    clear hk4 hp4 hS4 hS4s hS1 hSB hSB0 hMB hS1' hM cn0 cn1 cn2 cn3 cn4 cn5 cnf
    revert hX
    generalize W1.heap.size = nb
    intro hX
    obtain ⟨LN, hX⟩ : ∃ LN : Nat → Prop, NBox x L w LN _ _ nb _ _ _ _ _ _ := ⟨_, hX⟩
    go_wp2_with fail
    refine (skip_any x ⟨#[111, 102]⟩).use hX.mid.pw (ns_bind hN.out hE.out) (fun b st4 w4 he hp' hk' => ?_) (fun fl w4 he hk' => ?_)
    rotate_left
    · exact ⟨rfl, by rw [← e0.out]; exact hX.mid.toBad (bad_bind hE.out he) hk'⟩
    replace hE := Eqn.mk (eq_bind hE.out he)
    clear he
    replace hX := hX.step hk' hp'
    clear hk' hp'
    try dsimp only [eN, eT, eB, eS, eU, eI, eNB]
    cases b with
    | true =>
      replace hE := Eqn.mk (hE.out.trans (congrFun (if_pos rfl) _))
      go_wp2_with fail
      refine (cT.out).use hX.mid.pw (ns_bind hN.out hE.out) (fun part st3 w5 he hp' hk' => ?_) (fun fl w5 he hk' => ?_)
      rotate_left
      · exact ⟨rfl, by rw [← e0.out]; exact hX.mid.toBad (bad_bind hE.out he) hk'⟩
      replace hE := Eqn.mk (eq_bind hE.out he)
      clear he
      replace hX := hX.step hk' hp'
      clear hk' hp'
      try dsimp only [eN, eT, eB, eS, eU, eI, eNB]
      go_wp2_with fail
      obtain ⟨nt, h1, h2⟩ := toOf_some (ns_bind hN.out hE.out)
      refine (to_still hX.mid.pw h1).mono ?_
      rintro e w6 ⟨rfl, h⟩
      obtain rfl := h.symm
      replace hE := Eqn.mk (eq_bind hE.out h2)
      clear h1 h2
      have hXf := ((hX.setHi nt.hi).alloc (.cells #[.int .i64 (part : Int)] 3)).setKids (.slice (some ⟨w5.heap.size, 0, none⟩) 1 1)
      have hkd := Sec.mk (kids_box (w5.setCell ⟨nb, 2, none⟩ (.int .i64 nt.hi)) LN (hX.setHi nt.hi).mid.pw.bound [(part : Int)] (by simp) nb 5 (.slice (some ⟨w5.heap.size, 0, none⟩) 1 1) hX.own w5.heap.size (by simp))
      have hXs := Sec.mk hXf
      have m5 := ((hX.setHi nt.hi).alloc (.cells #[.int .i64 (part : Int)] 3)).c5
      have mf := ((hX.setHi nt.hi).alloc (.cells #[.int .i64 (part : Int)] 3)).fz 5
      obtain ⟨_, _, _, _, _, d0, d1, d2, d3, d4, d5, _⟩ := hXf
      have hX' := Sec.mk hX
      obtain ⟨_, _, _, _, _, c0, c1, c2, c3, c4, c5, fz⟩ := hX
      go_wp2_with fail
      refine calls_useM (add_any x ⟨3, tl, nt.hi, 0, wordOf x.s ⟨tk, tl, th⟩, [(part : Int)]⟩ _ _ _ _ hXs.out.mid.pw hkd.out (ns_last hN.out hE.out)) (fun kk st' w' he hp' hk' => ?_) (fun fl w' he hk' => ?_)
      rotate_left
      · exact ⟨rfl, by rw [← e0.out]; exact hXs.out.mid.toBad (hE.out.trans he) hk'⟩
      replace hE := Eqn.mk (hE.out.trans he)
      clear he
      have hM := hXs.out.mid.step hk' hp'
      clear hk' hp'
      try dsimp only [eN]
      go_wp2_with fail
      rw [← e0.out]
      exact hM.toOk hE.out
    | false =>
      replace hE := Eqn.mk (hE.out.trans (congrFun (if_neg Bool.false_ne_true) _))
      have hX' := Sec.mk hX
      obtain ⟨_, _, _, _, _, c0, c1, c2, c3, c4, c5, fz⟩ := hX
      go_wp2_with fail
      refine calls_useM (add_any x ⟨3, tl, th, 0, wordOf x.s ⟨tk, tl, th⟩, []⟩ _ _ _ _ hX'.out.mid.pw (kids_nil _ _) (ns_last hN.out hE.out)) (fun kk st' w' he hp' hk' => ?_) (fun fl w' he hk' => ?_)
      rotate_left
      · exact ⟨rfl, by rw [← e0.out]; exact hX'.out.mid.toBad (hE.out.trans he) hk'⟩
      replace hE := Eqn.mk (hE.out.trans he)
      clear he
      have hM := hX'.out.mid.step hk' hp'
      clear hk' hp'
      try dsimp only [eN]
      go_wp2_with fail
      rw [← e0.out]
      exact hM.toOk hE.out

end Go.Proofs.Ytkiijfgoaeiphaa

/- typeDeclaration. -/
set_option linter.unusedVariables false
set_option linter.unusedSimpArgs false
namespace Go.Proofs.Ytkiijfgoaeiphaa
open Go.RowKit
attribute [local go_sem ↓] Go.wp_at_zero Go.wp_at_succ

theorem bind_if_pos {α β : Type} {c : PSt → Bool} {m n : M α} {k : α → M β} {st : PSt} (h : c st = true) : M.bind (fun st => if c st then m st else n st) k st = M.bind m k st := by simp only [M.bind, h, if_true]
theorem bind_if_neg {α β : Type} {c : PSt → Bool} {m : M α} {a : α} {k : α → M β} {st : PSt} (h : c st = false) : M.bind (fun st => if c st then m st else .ok a st) k st = k a st := by simp only [M.bind, h, Bool.false_eq_true, if_false]

set_option maxRecDepth 100000 in
set_option maxHeartbeats 2000000 in
theorem typeDecl_any (x : Cx) : Meets x 49 #[pp x.g] (typeDecl x.toTxt) eU := by
  intro L w st hp hns
  have hsm := hp.small
  have hE : Eqn ((typeDecl x.toTxt) st) ((typeDecl x.toTxt) st) := ⟨rfl⟩
  have hN := Sec.mk hns
  have hM := Mid.start hp
  clear hns
  generalize hPost : PostM x L eU w ((typeDecl x.toTxt) st) = Post
  have e0 := Sec.mk hPost
  clear hPost
  have flo := run_lo
  have fhi := run_hi
  go_enter Try.func49, Try.ntmps49
  go_wp2_with fail
  try go_step3
  go_wp2_with fail
  refine (take_any x ⟨#[116, 121, 112, 101]⟩).use hM.pw (ns_bind hN.out hE.out) (fun t0 st' w' he hp' hk' => ?_) (fun fl w' he hk' => ?_)
  rotate_left
  · exact ⟨rfl, by rw [← e0.out]; exact hM.toBad (bad_bind hE.out he) hk'⟩
  replace hE := Eqn.mk (eq_bind hE.out he)
  clear he
  replace hM := hM.step hk' hp'
  clear hk' hp'
  try dsimp only [eN, eT, eB, eS, eU, eI, eNB]
  go_wp2_with fail
  have hK := KL.nil (w := w) hp hM.keeps hM.pw
  clear hM
  go_loopg [3] (x.toks.length + 1) (fun n v wr => ∃ l st3 Lk, KL x L w Lk wr v l st3 ∧ Sec (l.length + n = x.toks.length + 1) ∧ Eqn (typeDecl x.toTxt st) (M.bind (ticksL x.toTxt n l) (fun ticks => M.bind (takeKind x.toTxt 1) fun tn => M.bind (take x.toTxt ⟨#[61]⟩) fun _ => M.bind (skip x.toTxt ⟨#[124]⟩) fun _ => M.bind (casesL x.toTxt (x.toks.length + 1) ticks) (fun kids => M.bind (toOf (lastOf kids)) fun t => M.bind (add ⟨2, t0.lo, t, ticks.length, wordOf x.s tn, kids⟩) fun _ => M.ret ())) st3))
  case atStart => exact ⟨_, _, _, hK, ⟨by simp⟩, hE⟩
  case round =>
    clear hE hK
    obtain ⟨l, st3, Lk, hK, hn, hE⟩ := hrel
    cases gk with
    | zero => exact absurd (hE.out.trans rfl) hN.out
    | succ n =>
      obtain ⟨sa, sc, hv⟩ := hK.shape
      subst hv
      cases hb : isK x.toTxt 4 st3 with
      | true =>
        replace hE : Eqn (typeDecl x.toTxt st) (M.bind (tick x.toTxt) (fun k => M.bind (ticksL x.toTxt n (l ++ [(k : Int)])) (fun ticks => M.bind (takeKind x.toTxt 1) fun tn => M.bind (take x.toTxt ⟨#[61]⟩) fun _ => M.bind (skip x.toTxt ⟨#[124]⟩) fun _ => M.bind (casesL x.toTxt (x.toks.length + 1) ticks) (fun kids => M.bind (toOf (lastOf kids)) fun t => M.bind (add ⟨2, t0.lo, t, ticks.length, wordOf x.s tn, kids⟩) fun _ => M.ret ()))) st3) := ⟨hE.out.trans ((bind_if_pos hb).trans (M.bind_assoc _ _ _ _))⟩
        have hB := Sec.mk hb
        clear hb
        go_wp2_with fail
        refine (kind_any x 4).asks hK.pw hB.out fun w4 hp' hk' => ?_
        replace hK := hK.step hk' hp'
        clear hk' hp'
        try dsimp only [eN, eT, eB, eS, eU, eI, eNB]
        go_wp2_with fail
        refine (tick_any x).use hK.pw (ns_bind hN.out hE.out) (fun k st5 w5 he hp' hk' => ?_) (fun fl w5 he hk' => ?_)
        rotate_left
        · exact ⟨rfl, by rw [← e0.out]; exact Keeps.toBad (bad_bind hE.out he) (hK.keeps.trans (hk'.weaken hK.sub))⟩
        replace hE := Eqn.mk (eq_bind hE.out he)
        clear he
        replace hK := hK.step hk' hp'
        clear hk' hp'
        try dsimp only [eN, eT, eB, eS, eU, eI, eNB]
        go_wp2_with (at_builtin; refine push_kid rfl _ _ rfl (k : Int) (by rfl) (by rfl) hK (by have := hn.out; unfold most at *; omega) ?_; intro v' w6 Lk' hK6)
        clear hK
        go_roundg n
        case measure => omega
        case rel => exact ⟨_, _, _, hK6, ⟨by have := hn.out; simp; omega⟩, hE⟩
      | false =>
        replace hE : Eqn (typeDecl x.toTxt st) ((M.bind (takeKind x.toTxt 1) fun tn => M.bind (take x.toTxt ⟨#[61]⟩) fun _ => M.bind (skip x.toTxt ⟨#[124]⟩) fun _ => M.bind (casesL x.toTxt (x.toks.length + 1) l) (fun kids => M.bind (toOf (lastOf kids)) fun t => M.bind (add ⟨2, t0.lo, t, l.length, wordOf x.s tn, kids⟩) fun _ => M.ret ())) st3) := ⟨hE.out.trans (bind_if_neg hb)⟩
        have hB := Sec.mk hb
        clear hb
        go_wp2_with fail
        refine (kind_any x 4).asks hK.pw hB.out fun w4 hp' hk' => ?_
        replace hK := hK.step hk' hp'
        clear hk' hp'
        try dsimp only [eN, eT, eB, eS, eU, eI, eNB]
        go_wp2_with fail
        go_wp2_with fail
        refine (takeKind_any x 1).use hK.pw (ns_bind hN.out hE.out) (fun tn st5 w5 he hp' hk' => ?_) (fun fl w5 he hk' => ?_)
        rotate_left
        · exact ⟨rfl, by rw [← e0.out]; exact Keeps.toBad (bad_bind hE.out he) (hK.keeps.trans (hk'.weaken hK.sub))⟩
        replace hE := Eqn.mk (eq_bind hE.out he)
        clear he
        replace hK := hK.step hk' hp'
        clear hk' hp'
        try dsimp only [eN, eT, eB, eS, eU, eI, eNB]
        go_wp2_with fail
        refine (pword_any x tn).asks hK.pw rfl fun w6 hp' hk' => ?_
        replace hK := hK.step hk' hp'
        clear hk' hp'
        try dsimp only [eN, eT, eB, eS, eU, eI, eNB]
        go_wp2_with fail
        refine (take_any x ⟨#[61]⟩).use hK.pw (ns_bind hN.out hE.out) (fun t1 st7 w7 he hp' hk' => ?_) (fun fl w7 he hk' => ?_)
        rotate_left
        · exact ⟨rfl, by rw [← e0.out]; exact Keeps.toBad (bad_bind hE.out he) (hK.keeps.trans (hk'.weaken hK.sub))⟩
        replace hE := Eqn.mk (eq_bind hE.out he)
        clear he
        replace hK := hK.step hk' hp'
        clear hk' hp'
        try dsimp only [eN, eT, eB, eS, eU, eI, eNB]
        go_wp2_with fail
        refine (skip_any x ⟨#[124]⟩).use hK.pw (ns_bind hN.out hE.out) (fun b0 st8 w8 he hp' hk' => ?_) (fun fl w8 he hk' => ?_)
        rotate_left
        · exact ⟨rfl, by rw [← e0.out]; exact Keeps.toBad (bad_bind hE.out he) (hK.keeps.trans (hk'.weaken hK.sub))⟩
        replace hE := Eqn.mk (eq_bind hE.out he)
        clear he
        replace hK := hK.step hk' hp'
        clear hk' hp'
        try dsimp only [eN, eT, eB, eS, eU, eI, eNB]
        go_wp2_with fail
        go_step3
        go_wp2_with fail
        have hln : l.length ≤ x.toks.length + 1 := by have := hn.out; omega
        clear hn hB
        have hKs := hK.shape
        go_loopg [3] (x.toks.length + 1) (fun n v wr => ∃ l2 st3 Lk, KL x L w Lk wr v l2 st3 ∧ Sec (l2.length + n = l.length + x.toks.length + 1) ∧ Eqn (typeDecl x.toTxt st) (M.bind (casesL x.toTxt n l2) (fun kids => M.bind (toOf (lastOf kids)) fun t => M.bind (add ⟨2, t0.lo, t, l.length, wordOf x.s tn, kids⟩) fun _ => M.ret ()) st3))
        case atStart => exact ⟨_, _, _, hK, ⟨by omega⟩, hE⟩
        case round =>
          clear hE hK
          obtain ⟨l2, st3, Lk, hK, hn, hE⟩ := hrel
          cases gk with
          | zero => exact absurd (hE.out.trans rfl) hN.out
          | succ n =>
            replace hE : Eqn (typeDecl x.toTxt st) (M.bind (typeCase x.toTxt) (fun k => M.bind (M.bind (skip x.toTxt ⟨#[124]⟩) fun b => if b then casesL x.toTxt n (l2 ++ [(k : Int)]) else M.ret (l2 ++ [(k : Int)])) (fun kids => M.bind (toOf (lastOf kids)) fun t => M.bind (add ⟨2, t0.lo, t, l.length, wordOf x.s tn, kids⟩) fun _ => M.ret ())) st3) := ⟨hE.out.trans (M.bind_assoc _ _ _ _)⟩
            obtain ⟨sa2, sc2, hv⟩ := hK.shape
            subst hv
            go_wp2_with fail
            refine (typeCase_any x).use hK.pw (ns_bind hN.out hE.out) (fun k st4 w4 he hp' hk' => ?_) (fun fl w4 he hk' => ?_)
            rotate_left
            · exact ⟨rfl, by rw [← e0.out]; exact Keeps.toBad (bad_bind hE.out he) (hK.keeps.trans (hk'.weaken hK.sub))⟩
            replace hE := Eqn.mk (eq_bind hE.out he)
            clear he
            replace hK := hK.step hk' hp'
            clear hk' hp'
            try dsimp only [eN, eT, eB, eS, eU, eI, eNB]
            go_wp2_with (at_builtin; refine push_kid rfl _ _ rfl (k : Int) (by rfl) (by rfl) hK (by have := hn.out; unfold most at *; omega) ?_; intro v' w5 Lk' hK5)
            clear hK
            have hK := hK5
            clear hK5
            obtain ⟨sa3, sc3, hv⟩ := hK.shape
            subst hv
            have hlen2 : (l2 ++ [(k : Int)]).length = l2.length + 1 := by simp
            rw [hlen2] at hK ⊢
            replace hE := Eqn.mk (hE.out.trans (M.bind_assoc _ _ _ _))
            go_wp2_with fail
            refine (skip_any x ⟨#[124]⟩).use hK.pw (ns_bind hN.out hE.out) (fun b st6 w6 he hp' hk' => ?_) (fun fl w6 he hk' => ?_)
            rotate_left
            · exact ⟨rfl, by rw [← e0.out]; exact Keeps.toBad (bad_bind hE.out he) (hK.keeps.trans (hk'.weaken hK.sub))⟩
            replace hE := Eqn.mk (eq_bind hE.out he)
            clear he
            replace hK := hK.step hk' hp'
            clear hk' hp'
            try dsimp only [eN, eT, eB, eS, eU, eI, eNB]
            cases b with
            | true =>
              go_wp2_with fail
              go_roundg n
              case measure => omega
              case rel => exact ⟨_, _, _, hK, ⟨by have := hn.out; simp; omega⟩, ⟨hE.out.trans rfl⟩⟩
            | false =>
              replace hE : Eqn (typeDecl x.toTxt st) (M.bind (toOf (lastOf (l2 ++ [(k : Int)]))) (fun t => M.bind (add ⟨2, t0.lo, t, l.length, wordOf x.s tn, l2 ++ [(k : Int)]⟩) fun _ => M.ret ()) st6) := ⟨hE.out.trans rfl⟩
              have hrd := hK.reads
              obtain ⟨va2, vc2, hv, hva1, hva2, hva3⟩ := hrd
              injection hv with hv1 hv3 hv2
              clear hv3
              subst hv1
              subst hv2
              obtain ⟨vb, vo, rfl, hvb, hvc⟩ := hva3 (by simp)
              have hlc : w6.cell? ⟨vb, vo + l2.length, none⟩ = some (.int .i64 k) := hvc l2.length k (by simp)
              have hli : lastOf (l2 ++ [(k : Int)]) = k := by simp [lastOf]
              rw [hli] at hE
              have hM : Mid x L w _ w6 st6 := ⟨hK.pw, hK.keeps, hK.sub⟩
              have hkd := Sec.mk hK.kids
              have hlen : l2.length ≤ 2000000000 + 2 := by have := hn.out; unfold most at hsm; omega
              clear hlen2 hvc hva1 hva2 hva3 hK hli
              go_wp2_with fail
              obtain ⟨nt, h1, h2⟩ := toOf_some (ns_bind hN.out hE.out)
              refine (to_still hM.pw h1).mono ?_
              rintro e w1 ⟨rfl, h⟩
              obtain rfl := h.symm
              replace hE := Eqn.mk (eq_bind hE.out h2)
              clear h1 h2
              go_wp2_with fail
              refine calls_useM (add_any x ⟨2, t0.lo, nt.hi, l.length, wordOf x.s tn, l2 ++ [(k : Int)]⟩ L _ _ _ (hM.pw.weaken hM.sub) hkd.out (ns_bind hN.out hE.out)) (fun kk st' w' he hp' hk' => ?_) (fun fl w' he hk' => ?_)
              rotate_left
              · exact ⟨rfl, by rw [← e0.out]; exact Keeps.toBad (bad_bind hE.out he) (hM.keeps.trans hk')⟩
              replace hE := Eqn.mk (eq_bind hE.out he)
              try dsimp only [eN]
              go_wp2_with fail
              go_end0
              rw [← e0.out]
              exact hp'.toOk (hE.out.trans rfl) (hM.keeps.trans hk')

end Go.Proofs.Ytkiijfgoaeiphaa

/- declaration. -/
set_option linter.unusedVariables false
set_option linter.unusedSimpArgs false
namespace Go.Proofs.Ytkiijfgoaeiphaa
open Go.RowKit
attribute [local go_sem ↓] Go.wp_at_zero Go.wp_at_succ

theorem decl_any (x : Cx) : Meets x 33 #[pp x.g] (decl x.toTxt) eU := by
  have cE : Sec (Meets x 55 #[pp x.g, .int .i64 0] (exprK x.toTxt 65) eN) := ⟨expr_all x 65 0 rfl⟩
  intro L w st hp hns
  have hE : Eqn ((decl x.toTxt) st) ((decl x.toTxt) st) := ⟨rfl⟩
  have hN := Sec.mk hns
  have hM := Mid.start hp
  clear hns
  generalize hPost : PostM x L eU w ((decl x.toTxt) st) = Post
  have e0 := Sec.mk hPost
  clear hPost
  have flo := run_lo
  have fhi := run_hi
  go_enter Try.func33, Try.ntmps33
  cases hb : isW x.toTxt ⟨#[116, 121, 112, 101]⟩ st with
  | true =>
    replace hE := Eqn.mk (hE.out.trans (if_pos hb))
    have hB := Sec.mk hb
    clear hb
    go_wp2_with fail
    refine (is_any' x ⟨#[116, 121, 112, 101]⟩).asks hM.pw hB.out fun w' hp' hk' => ?_
    replace hM := hM.step hk' hp'
    clear hk' hp'
    try dsimp only [eN, eT, eB, eS, eU, eI, eNB]
    go_wp2_with fail
    refine (typeDecl_any x).use hM.pw (ns_last hN.out hE.out) (fun u st' w' he hp' hk' => ?_) (fun fl w' he hk' => ?_)
    rotate_left
    · exact ⟨rfl, by rw [← e0.out]; exact hM.toBad (hE.out.trans he) hk'⟩
    replace hE := Eqn.mk (hE.out.trans he)
    clear he
    replace hM := hM.step hk' hp'
    clear hk' hp'
    try dsimp only [eN, eT, eB, eS, eU, eI, eNB]
    go_wp2_with fail
    refine bodyPost_ret (results_none rfl _ _ _) rfl ?_
    rw [← e0.out]
    exact hM.toOk hE.out
  | false =>
    replace hE := Eqn.mk (hE.out.trans (if_neg (nott hb)))
    have hB := Sec.mk hb
    clear hb
    go_wp2_with fail
    refine (is_any' x ⟨#[116, 121, 112, 101]⟩).asks hM.pw hB.out fun w' hp' hk' => ?_
    replace hM := hM.step hk' hp'
    clear hk' hp'
    try dsimp only [eN, eT, eB, eS, eU, eI, eNB]
    go_wp2_with fail
    refine (take_any x ⟨#[108, 101, 116]⟩).use hM.pw (ns_bind hN.out hE.out) (fun t0 st' w' he hp' hk' => ?_) (fun fl w' he hk' => ?_)
    rotate_left
    · exact ⟨rfl, by rw [← e0.out]; exact hM.toBad (bad_bind hE.out he) hk'⟩
    replace hE := Eqn.mk (eq_bind hE.out he)
    clear he
    replace hM := hM.step hk' hp'
    clear hk' hp'
    try dsimp only [eN, eT, eB, eS, eU, eI, eNB]
    go_wp2_with fail
    refine (rec_any x).use hM.pw (ns_bind hN.out hE.out) (fun r st' w' he hp' hk' => ?_) (fun fl w' he hk' => ?_)
    rotate_left
    · exact ⟨rfl, by rw [← e0.out]; exact hM.toBad (bad_bind hE.out he) hk'⟩
    replace hE := Eqn.mk (eq_bind hE.out he)
    clear he
    replace hM := hM.step hk' hp'
    clear hk' hp'
    try dsimp only [eN, eT, eB, eS, eU, eI, eNB]
    go_wp2_with fail
    refine (bind_any x).use hM.pw (ns_bind hN.out hE.out) (fun name st' w' he hp' hk' => ?_) (fun fl w' he hk' => ?_)
    rotate_left
    · exact ⟨rfl, by rw [← e0.out]; exact hM.toBad (bad_bind hE.out he) hk'⟩
    replace hE := Eqn.mk (eq_bind hE.out he)
    clear he
    replace hM := hM.step hk' hp'
    clear hk' hp'
    try dsimp only [eN, eT, eB, eS, eU, eI, eNB]
    go_wp2_with fail
    refine calls_useL (binds_any x _ _ _ hM.pw (ns_bind hN.out hE.out)) (fun l st' w' v Lk he hK => ?_) (fun fl w' he hk' => ?_)
    rotate_left
    · exact ⟨rfl, by rw [← e0.out]; exact hM.toBad (bad_bind hE.out he) hk'⟩
    replace hE := Eqn.mk (eq_bind hE.out he)
    have hln := binds_len he
    have hnn := Sec.mk (binds_nonneg he)
    clear he
    have hR := Sec.mk hK.reads
    replace hM : Mid x L w Lk w' st' := ⟨hK.pw, hM.keeps.trans (hK.keeps.weaken hM.sub), fun i hi => hK.sub i (hM.sub i hi)⟩
    obtain ⟨va, vc, rfl⟩ := hK.shape
    clear hK
    go_wp2_with fail
    refine (take_any x ⟨#[61]⟩).use hM.pw (ns_bind hN.out hE.out) (fun t1 st' w' he hp' hk' => ?_) (fun fl w' he hk' => ?_)
    rotate_left
    · exact ⟨rfl, by rw [← e0.out]; exact hM.toBad (bad_bind hE.out he) hk'⟩
    replace hE := Eqn.mk (eq_bind hE.out he)
    clear he
    replace hR := Sec.mk (hR.out.keep fun b hb => hk'.mine b hb)
    replace hM := hM.step hk' hp'
    clear hk' hp'
    try dsimp only [eN, eT, eB, eS, eU, eI, eNB]
    go_wp2_with fail
    refine (cE.out).use hM.pw (ns_bind hN.out hE.out) (fun b0 st' w' he hp' hk' => ?_) (fun fl w' he hk' => ?_)
    rotate_left
    · exact ⟨rfl, by rw [← e0.out]; exact hM.toBad (bad_bind hE.out he) hk'⟩
    replace hE := Eqn.mk (eq_bind hE.out he)
    clear he
    replace hR := Sec.mk (hR.out.keep fun b hb => hk'.mine b hb)
    replace hM := hM.step hk' hp'
    clear hk' hp'
    try dsimp only [eN, eT, eB, eS, eU, eI, eNB]
    go_wp2_with fail
    refine calls_useM (wrap_any x _ l none b0 _ _ _ hM.pw hR.out hnn.out (ns_bind hN.out hE.out)) (fun k st' w' he hp' hk' => ?_) (fun fl w' he hk' => ?_)
    rotate_left
    · exact ⟨rfl, by rw [← e0.out]; exact hM.toBad (bad_bind hE.out he) hk'⟩
    replace hE := Eqn.mk (eq_bind hE.out he)
    clear he
    replace hR := Sec.mk (hR.out.keep fun b hb => hk'.mine b hb)
    replace hM := hM.step hk' hp'
    clear hk' hp'
    try dsimp only [eN, eT, eB, eS, eU, eI, eNB]
    go_wp2_with fail
    obtain ⟨nt, h1, h2⟩ := toOf_some (ns_bind hN.out hE.out)
    refine (to_still hM.pw h1).mono ?_
    rintro e w1 ⟨rfl, h⟩
    obtain rfl := h.symm
    replace hE := Eqn.mk (eq_bind hE.out h2)
    clear h1 h2
    go_wp2_with fail
    refine calls_useM (add_any x ⟨1, t0.lo, nt.hi, r, ⟨#[]⟩, [(name : Int), (k : Int)]⟩ _ _ _ _ (hM.pw.alloc _) (kids_lit _ _ hM.pw.bound [(name : Int), (k : Int)] (by simp)) (ns_bind hN.out hE.out)) (fun kk st' w' he hp' hk' => ?_) (fun fl w' he hk' => ?_)
    rotate_left
    · exact ⟨rfl, by rw [← e0.out]; exact (hM.alloc _).toBad (bad_bind hE.out he) hk'⟩
    replace hE := Eqn.mk (eq_bind hE.out he)
    clear he
    replace hM := (hM.alloc _).step hk' hp'
    clear hk' hp'
    try dsimp only [eN]
    replace hE := Eqn.mk (hE.out.trans rfl)
    go_wp2_with fail
    go_end0
    rw [← e0.out]
    exact hM.toOk hE.out

end Go.Proofs.Ytkiijfgoaeiphaa
