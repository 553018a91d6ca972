/- choice, compare. -/
import Derived.Test.YtkiijfgoaeiphaaGa
import Derived.WalkMore
set_option linter.unusedVariables false
set_option linter.unusedSimpArgs false
namespace Go.Proofs.Ytkiijfgoaeiphaa
open Go.RowKit
attribute [local go_sem ↓] Go.wp_at_zero Go.wp_at_succ

theorem choice_any (x : Cx) (d : Nat) (E : M Nat) (hd : d ≤ 64) (cE : Meets x 55 #[pp x.g, .int .i64 ((d : Int) + 1)] E eN) : Meets x 72 #[pp x.g, .int .i64 d] (choice x.toTxt E) eN := by
  have cE := Sec.mk cE
  intro L w st hp hns
  have hE : Eqn ((choice x.toTxt E) st) ((choice x.toTxt E) st) := ⟨rfl⟩
  have hN := Sec.mk hns
  have hM := Mid.start hp
  clear hns
  generalize hPost : PostM x L eN w ((choice x.toTxt E) st) = Post
  have e0 := Sec.mk hPost
  clear hPost
  have flo := run_lo
  have fhi := run_hi
  go_enter Try.func72, Try.ntmps72
  go_wp2_with fail
  refine (take_any x ⟨#[105, 102]⟩).use hM.pw (ns_bind hN.out hE.out) (fun t0 st' w' he hp' hk' => ?_) (fun fl w' he hk' => ?_)
  rotate_left
  · exact ⟨rfl, by rw [← e0.out]; exact hM.toBad (bad_bind hE.out he) hk'⟩
  replace hE := Eqn.mk (eq_bind hE.out he)
  clear he
  replace hM := hM.step hk' hp'
  clear hk' hp'
  try dsimp only [eN, eT, eB, eS, eU, eI, eNB]
  go_wp2_with fail
  refine (cE.out).use hM.pw (ns_bind hN.out hE.out) (fun a1 st' w' he hp' hk' => ?_) (fun fl w' he hk' => ?_)
  rotate_left
  · exact ⟨rfl, by rw [← e0.out]; exact hM.toBad (bad_bind hE.out he) hk'⟩
  replace hE := Eqn.mk (eq_bind hE.out he)
  clear he
  replace hM := hM.step hk' hp'
  clear hk' hp'
  try dsimp only [eN, eT, eB, eS, eU, eI, eNB]
  go_wp2_with fail
  refine (take_any x ⟨#[116, 104, 101, 110]⟩).use hM.pw (ns_bind hN.out hE.out) (fun t1 st' w' he hp' hk' => ?_) (fun fl w' he hk' => ?_)
  rotate_left
  · exact ⟨rfl, by rw [← e0.out]; exact hM.toBad (bad_bind hE.out he) hk'⟩
  replace hE := Eqn.mk (eq_bind hE.out he)
  clear he
  replace hM := hM.step hk' hp'
  clear hk' hp'
  try dsimp only [eN, eT, eB, eS, eU, eI, eNB]
  go_wp2_with fail
  refine (cE.out).use hM.pw (ns_bind hN.out hE.out) (fun a2 st' w' he hp' hk' => ?_) (fun fl w' he hk' => ?_)
  rotate_left
  · exact ⟨rfl, by rw [← e0.out]; exact hM.toBad (bad_bind hE.out he) hk'⟩
  replace hE := Eqn.mk (eq_bind hE.out he)
  clear he
  replace hM := hM.step hk' hp'
  clear hk' hp'
  try dsimp only [eN, eT, eB, eS, eU, eI, eNB]
  go_wp2_with fail
  refine (take_any x ⟨#[101, 108, 115, 101]⟩).use hM.pw (ns_bind hN.out hE.out) (fun t2 st' w' he hp' hk' => ?_) (fun fl w' he hk' => ?_)
  rotate_left
  · exact ⟨rfl, by rw [← e0.out]; exact hM.toBad (bad_bind hE.out he) hk'⟩
  replace hE := Eqn.mk (eq_bind hE.out he)
  clear he
  replace hM := hM.step hk' hp'
  clear hk' hp'
  try dsimp only [eN, eT, eB, eS, eU, eI, eNB]
  go_wp2_with fail
  refine (cE.out).use hM.pw (ns_bind hN.out hE.out) (fun a3 st' w' he hp' hk' => ?_) (fun fl w' he hk' => ?_)
  rotate_left
  · exact ⟨rfl, by rw [← e0.out]; exact hM.toBad (bad_bind hE.out he) hk'⟩
  replace hE := Eqn.mk (eq_bind hE.out he)
  clear he
  replace hM := hM.step hk' hp'
  clear hk' hp'
  try dsimp only [eN, eT, eB, eS, eU, eI, eNB]
  go_wp2_with fail
  obtain ⟨nt, h1, h2⟩ := toOf_some (ns_bind hN.out hE.out)
  refine (to_still hM.pw h1).mono ?_
  rintro e w1 ⟨rfl, h⟩
  obtain rfl := h.symm
  replace hE := Eqn.mk (eq_bind hE.out h2)
  clear h1 h2
  go_wp2_with fail
  refine calls_useM (add_any x ⟨14, t0.lo, nt.hi, 0, ⟨#[]⟩, [(a1 : Int), (a2 : Int), (a3 : Int)]⟩ _ _ _ _ (hM.pw.alloc _) (kids_lit _ _ hM.pw.bound [(a1 : Int), (a2 : Int), (a3 : Int)] (by simp)) (ns_last hN.out hE.out)) (fun k st' w' he hp' hk' => ?_) (fun fl w' he hk' => ?_)
  rotate_left
  · exact ⟨rfl, by rw [← e0.out]; exact (hM.alloc _).toBad (hE.out.trans he) hk'⟩
  replace hE := Eqn.mk (hE.out.trans he)
  clear he
  replace hM := (hM.alloc _).step hk' hp'
  clear hk' hp'
  try dsimp only [eN]
  go_wp2_with fail
  rw [← e0.out]
  exact hM.toOk hE.out

def compareS (x : Txt) (S : M Nat) : M Nat := M.bind S fun left => fun st =>
  if isW x ⟨#[61]⟩ st || isW x ⟨#[60]⟩ st then M.bind (next x) (fun t => M.bind S fun right => operate (wordOf x.s t) left right) st
  else .ok left st
theorem compare_any (x : Cx) (d : Nat) (S : M Nat) (cS : Meets x 77 #[pp x.g, .int .i64 d] S eN) : Meets x 74 #[pp x.g, .int .i64 d] (compareS x.toTxt S) eN := by
  have cS := Sec.mk cS
  intro L w st hp hns
  have hE : Eqn ((compareS x.toTxt S) st) ((compareS x.toTxt S) st) := ⟨rfl⟩
  have hN := Sec.mk hns
  have hM := Mid.start hp
  clear hns
  generalize hPost : PostM x L eN w ((compareS x.toTxt S) st) = Post
  have e0 := Sec.mk hPost
  clear hPost
  have flo := run_lo
  have fhi := run_hi
  go_enter Try.func74, Try.ntmps74
  go_wp2_with fail
  refine (cS.out).use hM.pw (ns_bind hN.out hE.out) (fun left st1 w1 he hp' hk' => ?_) (fun fl w1 he hk' => ?_)
  rotate_left
  · exact ⟨rfl, by rw [← e0.out]; exact hM.toBad (bad_bind hE.out he) hk'⟩
  replace hE := Eqn.mk (eq_bind hE.out he)
  clear he
  replace hM := hM.step hk' hp'
  clear hk' hp'
  try dsimp only [eN, eT, eB, eS, eU, eI, eNB]
  cases hb : isW x.toTxt ⟨#[61]⟩ st1 with
  | true =>
    replace hE := Eqn.mk (hE.out.trans (if_pos (by rw [hb]; rfl)))
    have h1 := Sec.mk hb
    clear hb
    go_wp2_with fail
    refine (is_any' x ⟨#[61]⟩).asks hM.pw h1.out fun w' hp' hk' => ?_
    replace hM := hM.step hk' hp'
    clear hk' hp'
    try dsimp only [eN, eT, eB, eS, eU, eI, eNB]
    go_wp2_with fail
    refine (next_any x).use hM.pw (ns_bind hN.out hE.out) (fun t st2 w3 he hp' hk' => ?_) (fun fl w3 he hk' => ?_)
    rotate_left
    · exact ⟨rfl, by rw [← e0.out]; exact hM.toBad (bad_bind hE.out he) hk'⟩
    replace hE := Eqn.mk (eq_bind hE.out he)
    clear he
    replace hM := hM.step hk' hp'
    clear hk' hp'
    try dsimp only [eN, eT, eB, eS, eU, eI, eNB]
    go_wp2_with fail
    refine (pword_any x t).asks hM.pw rfl fun w' hp' hk' => ?_
    replace hM := hM.step hk' hp'
    clear hk' hp'
    try dsimp only [eN, eT, eB, eS, eU, eI, eNB]
    go_wp2_with fail
    refine (cS.out).use hM.pw (ns_bind hN.out hE.out) (fun right st3 w4 he hp' hk' => ?_) (fun fl w4 he hk' => ?_)
    rotate_left
    · exact ⟨rfl, by rw [← e0.out]; exact hM.toBad (bad_bind hE.out he) hk'⟩
    replace hE := Eqn.mk (eq_bind hE.out he)
    clear he
    replace hM := hM.step hk' hp'
    clear hk' hp'
    try dsimp only [eN, eT, eB, eS, eU, eI, eNB]
    go_wp2_with fail
    refine (operate_any x _ left right).use hM.pw (ns_last hN.out hE.out) (fun k st' w' he hp' hk' => ?_) (fun fl w' he hk' => ?_)
    rotate_left
    · exact ⟨rfl, by rw [← e0.out]; exact hM.toBad (hE.out.trans he) hk'⟩
    replace hE := Eqn.mk (hE.out.trans he)
    clear he
    replace hM := hM.step hk' hp'
    clear hk' hp'
    try dsimp only [eN, eT, eB, eS, eU, eI, eNB]
    go_wp2_with fail
    rw [← e0.out]
    exact hM.toOk hE.out
  | false =>
    have h1 := Sec.mk hb
    clear hb
    cases hb : isW x.toTxt ⟨#[60]⟩ st1 with
    | true =>
      replace hE := Eqn.mk (hE.out.trans (if_pos (by rw [h1.out, hb]; rfl)))
      have h2 := Sec.mk hb
      clear hb
      go_wp2_with fail
      refine (is_any' x ⟨#[61]⟩).asks hM.pw h1.out fun w' hp' hk' => ?_
      replace hM := hM.step hk' hp'
      clear hk' hp'
      try dsimp only [eN, eT, eB, eS, eU, eI, eNB]
      go_wp2_with fail
      refine (is_any' x ⟨#[60]⟩).asks hM.pw h2.out fun w' hp' hk' => ?_
      replace hM := hM.step hk' hp'
      clear hk' hp'
      try dsimp only [eN, eT, eB, eS, eU, eI, eNB]
      go_wp2_with fail
      refine (next_any x).use hM.pw (ns_bind hN.out hE.out) (fun t st2 w3 he hp' hk' => ?_) (fun fl w3 he hk' => ?_)
      rotate_left
      · exact ⟨rfl, by rw [← e0.out]; exact hM.toBad (bad_bind hE.out he) hk'⟩
      replace hE := Eqn.mk (eq_bind hE.out he)
      clear he
      replace hM := hM.step hk' hp'
      clear hk' hp'
      try dsimp only [eN, eT, eB, eS, eU, eI, eNB]
      go_wp2_with fail
      refine (pword_any x t).asks hM.pw rfl fun w' hp' hk' => ?_
      replace hM := hM.step hk' hp'
      clear hk' hp'
      try dsimp only [eN, eT, eB, eS, eU, eI, eNB]
      go_wp2_with fail
      refine (cS.out).use hM.pw (ns_bind hN.out hE.out) (fun right st3 w4 he hp' hk' => ?_) (fun fl w4 he hk' => ?_)
      rotate_left
      · exact ⟨rfl, by rw [← e0.out]; exact hM.toBad (bad_bind hE.out he) hk'⟩
      replace hE := Eqn.mk (eq_bind hE.out he)
      clear he
      replace hM := hM.step hk' hp'
      clear hk' hp'
      try dsimp only [eN, eT, eB, eS, eU, eI, eNB]
      go_wp2_with fail
      refine (operate_any x _ left right).use hM.pw (ns_last hN.out hE.out) (fun k st' w' he hp' hk' => ?_) (fun fl w' he hk' => ?_)
      rotate_left
      · exact ⟨rfl, by rw [← e0.out]; exact hM.toBad (hE.out.trans he) hk'⟩
      replace hE := Eqn.mk (hE.out.trans he)
      clear he
      replace hM := hM.step hk' hp'
      clear hk' hp'
      try dsimp only [eN, eT, eB, eS, eU, eI, eNB]
      go_wp2_with fail
      rw [← e0.out]
      exact hM.toOk hE.out
    | false =>
      replace hE := Eqn.mk (hE.out.trans (if_neg (by rw [h1.out, hb]; exact Bool.false_ne_true)))
      have h2 := Sec.mk hb
      clear hb
      go_wp2_with fail
      refine (is_any' x ⟨#[61]⟩).asks hM.pw h1.out fun w' hp' hk' => ?_
      replace hM := hM.step hk' hp'
      clear hk' hp'
      try dsimp only [eN, eT, eB, eS, eU, eI, eNB]
      go_wp2_with fail
      refine (is_any' x ⟨#[60]⟩).asks hM.pw h2.out fun w' hp' hk' => ?_
      replace hM := hM.step hk' hp'
      clear hk' hp'
      try dsimp only [eN, eT, eB, eS, eU, eI, eNB]
      go_wp2_with fail
      rw [← e0.out]
      exact hM.toOk hE.out

end Go.Proofs.Ytkiijfgoaeiphaa

/- letIn. -/
set_option linter.unusedVariables false
set_option linter.unusedSimpArgs false
namespace Go.Proofs.Ytkiijfgoaeiphaa
open Go.RowKit
attribute [local go_sem ↓] Go.wp_at_zero Go.wp_at_succ

set_option maxRecDepth 100000 in
set_option maxHeartbeats 1000000 in
theorem letIn_any (x : Cx) (d : Nat) (E : M Nat) (hd : d ≤ 64) (cE : Meets x 55 #[pp x.g, .int .i64 ((d : Int) + 1)] E eN) : Meets x 71 #[pp x.g, .int .i64 d] (letIn x.toTxt E) eN := by
  have cE := Sec.mk cE
  intro L w st hp hns
  have hE : Eqn ((letIn x.toTxt E) st) ((letIn x.toTxt E) st) := ⟨rfl⟩
  have hN := Sec.mk hns
  have hM := Mid.start hp
  clear hns
  generalize hPost : PostM x L eN w ((letIn x.toTxt E) st) = Post
  have e0 := Sec.mk hPost
  clear hPost
  have flo := run_lo
  have fhi := run_hi
  go_enter Try.func71, Try.ntmps71
  go_wp2_with fail
  refine (take_any x ⟨#[108, 101, 116]⟩).use hM.pw (ns_bind hN.out hE.out) (fun t0 st' w' he hp' hk' => ?_) (fun fl w' he hk' => ?_)
  rotate_left
  · exact ⟨rfl, by rw [← e0.out]; exact hM.toBad (bad_bind hE.out he) hk'⟩
  replace hE := Eqn.mk (eq_bind hE.out he)
  clear he
  replace hM := hM.step hk' hp'
  clear hk' hp'
  try dsimp only [eN, eT, eB, eS, eU, eI, eNB]
  go_wp2_with fail
  refine (rec_any x).use hM.pw (ns_bind hN.out hE.out) (fun r st' w' he hp' hk' => ?_) (fun fl w' he hk' => ?_)
  rotate_left
  · exact ⟨rfl, by rw [← e0.out]; exact hM.toBad (bad_bind hE.out he) hk'⟩
  replace hE := Eqn.mk (eq_bind hE.out he)
  clear he
  replace hM := hM.step hk' hp'
  clear hk' hp'
  try dsimp only [eN, eT, eB, eS, eU, eI, eNB]
  go_wp2_with fail
  refine (bind_any x).use hM.pw (ns_bind hN.out hE.out) (fun name st' w' he hp' hk' => ?_) (fun fl w' he hk' => ?_)
  rotate_left
  · exact ⟨rfl, by rw [← e0.out]; exact hM.toBad (bad_bind hE.out he) hk'⟩
  replace hE := Eqn.mk (eq_bind hE.out he)
  clear he
  replace hM := hM.step hk' hp'
  clear hk' hp'
  try dsimp only [eN, eT, eB, eS, eU, eI, eNB]
  go_wp2_with fail
  refine calls_useL (binds_any x _ _ _ hM.pw (ns_bind hN.out hE.out)) (fun l st' w' v Lk he hK => ?_) (fun fl w' he hk' => ?_)
  rotate_left
  · exact ⟨rfl, by rw [← e0.out]; exact hM.toBad (bad_bind hE.out he) hk'⟩
  replace hE := Eqn.mk (eq_bind hE.out he)
  have hln := binds_len he
  have hnn := Sec.mk (binds_nonneg he)
  clear he
  have hR := Sec.mk hK.reads
  replace hM : Mid x L w Lk w' st' := ⟨hK.pw, hM.keeps.trans (hK.keeps.weaken hM.sub), fun i hi => hK.sub i (hM.sub i hi)⟩
  obtain ⟨va, vc, rfl⟩ := hK.shape
  clear hK
  go_wp2_with fail
  refine (take_any x ⟨#[61]⟩).use hM.pw (ns_bind hN.out hE.out) (fun t1 st' w' he hp' hk' => ?_) (fun fl w' he hk' => ?_)
  rotate_left
  · exact ⟨rfl, by rw [← e0.out]; exact hM.toBad (bad_bind hE.out he) hk'⟩
  replace hE := Eqn.mk (eq_bind hE.out he)
  clear he
  replace hR := Sec.mk (hR.out.keep fun b hb => hk'.mine b hb)
  replace hM := hM.step hk' hp'
  clear hk' hp'
  try dsimp only [eN, eT, eB, eS, eU, eI, eNB]
  go_wp2_with fail
  refine (cE.out).use hM.pw (ns_bind hN.out hE.out) (fun b0 st' w' he hp' hk' => ?_) (fun fl w' he hk' => ?_)
  rotate_left
  · exact ⟨rfl, by rw [← e0.out]; exact hM.toBad (bad_bind hE.out he) hk'⟩
  replace hE := Eqn.mk (eq_bind hE.out he)
  clear he
  replace hR := Sec.mk (hR.out.keep fun b hb => hk'.mine b hb)
  replace hM := hM.step hk' hp'
  clear hk' hp'
  try dsimp only [eN, eT, eB, eS, eU, eI, eNB]
  go_wp2_with fail
  refine calls_useM (wrap_any x _ l none b0 _ _ _ hM.pw hR.out hnn.out (ns_bind hN.out hE.out)) (fun k st' w' he hp' hk' => ?_) (fun fl w' he hk' => ?_)
  rotate_left
  · exact ⟨rfl, by rw [← e0.out]; exact hM.toBad (bad_bind hE.out he) hk'⟩
  replace hE := Eqn.mk (eq_bind hE.out he)
  clear he
  replace hR := Sec.mk (hR.out.keep fun b hb => hk'.mine b hb)
  replace hM := hM.step hk' hp'
  clear hk' hp'
  try dsimp only [eN, eT, eB, eS, eU, eI, eNB]
  go_wp2_with fail
  refine (take_any x ⟨#[105, 110]⟩).use hM.pw (ns_bind hN.out hE.out) (fun t2 st' w' he hp' hk' => ?_) (fun fl w' he hk' => ?_)
  rotate_left
  · exact ⟨rfl, by rw [← e0.out]; exact hM.toBad (bad_bind hE.out he) hk'⟩
  replace hE := Eqn.mk (eq_bind hE.out he)
  clear he
  replace hM := hM.step hk' hp'
  clear hk' hp'
  try dsimp only [eN, eT, eB, eS, eU, eI, eNB]
  go_wp2_with fail
  refine (cE.out).use hM.pw (ns_bind hN.out hE.out) (fun body st' w' he hp' hk' => ?_) (fun fl w' he hk' => ?_)
  rotate_left
  · exact ⟨rfl, by rw [← e0.out]; exact hM.toBad (bad_bind hE.out he) hk'⟩
  replace hE := Eqn.mk (eq_bind hE.out he)
  clear he
  replace hM := hM.step hk' hp'
  clear hk' hp'
  try dsimp only [eN, eT, eB, eS, eU, eI, eNB]
  go_wp2_with fail
  obtain ⟨nt, h1, h2⟩ := toOf_some (ns_bind hN.out hE.out)
  refine (to_still hM.pw h1).mono ?_
  rintro e w1 ⟨rfl, h⟩
  obtain rfl := h.symm
  replace hE := Eqn.mk (eq_bind hE.out h2)
  clear h1 h2
  go_wp2_with fail
  refine calls_useM (add_any x ⟨13, t0.lo, nt.hi, r, ⟨#[]⟩, [(name : Int), (k : Int), (body : Int)]⟩ _ _ _ _ (hM.pw.alloc _) (kids_lit _ _ hM.pw.bound [(name : Int), (k : Int), (body : Int)] (by simp)) (ns_last hN.out hE.out)) (fun kk st' w' he hp' hk' => ?_) (fun fl w' he hk' => ?_)
  rotate_left
  · exact ⟨rfl, by rw [← e0.out]; exact (hM.alloc _).toBad (hE.out.trans he) hk'⟩
  replace hE := Eqn.mk (hE.out.trans he)
  clear he
  replace hM := (hM.alloc _).step hk' hp'
  clear hk' hp'
  try dsimp only [eN]
  go_wp2_with fail
  rw [← e0.out]
  exact hM.toOk hE.out

end Go.Proofs.Ytkiijfgoaeiphaa

/- function. -/
set_option linter.unusedVariables false
set_option linter.unusedSimpArgs false
namespace Go.Proofs.Ytkiijfgoaeiphaa
open Go.RowKit
attribute [local go_sem ↓] Go.wp_at_zero Go.wp_at_succ

set_option maxRecDepth 100000 in
set_option maxHeartbeats 1000000 in
theorem function_any (x : Cx) (d : Nat) (E : M Nat) (hd : d ≤ 64) (cE : Meets x 55 #[pp x.g, .int .i64 ((d : Int) + 1)] E eN) : Meets x 70 #[pp x.g, .int .i64 d] (function x.toTxt E) eN := by
  have cE := Sec.mk cE
  intro L w st hp hns
  have hE : Eqn ((function x.toTxt E) st) ((function x.toTxt E) st) := ⟨rfl⟩
  have hN := Sec.mk hns
  have hM := Mid.start hp
  clear hns
  generalize hPost : PostM x L eN w ((function x.toTxt E) st) = Post
  have e0 := Sec.mk hPost
  clear hPost
  have flo := run_lo
  have fhi := run_hi
  go_enter Try.func70, Try.ntmps70
  have hsm := hp.small
  go_wp2_with fail
  refine (take_any x ⟨#[102, 117, 110]⟩).use hM.pw (ns_bind hN.out hE.out) (fun t0 st' w' he hp' hk' => ?_) (fun fl w' he hk' => ?_)
  rotate_left
  · exact ⟨rfl, by rw [← e0.out]; exact hM.toBad (bad_bind hE.out he) hk'⟩
  replace hE := Eqn.mk (eq_bind hE.out he)
  clear he
  replace hM := hM.step hk' hp'
  clear hk' hp'
  try dsimp only [eN, eT, eB, eS, eU, eI, eNB]
  go_wp2_with fail
  refine (bind_any x).use hM.pw (ns_bind hN.out hE.out) (fun b st1 w1 he hp' hk' => ?_) (fun fl w1 he hk' => ?_)
  rotate_left
  · exact ⟨rfl, by rw [← e0.out]; exact hM.toBad (bad_bind hE.out he) hk'⟩
  replace hE := Eqn.mk (eq_bind hE.out he)
  clear he
  replace hM := hM.step hk' hp'
  clear hk' hp'
  try dsimp only [eN, eT, eB, eS, eU, eI, eNB]
  go_wp2_with fail
  have hK0 := KL.one (w := w) hp hM.keeps hM.pw (b : Int)
  have hM0 := hM.own (.cells #[.int .i64 (b : Int)] 3)
  refine calls_useL (binds_any x _ _ _ hM0.pw (ns_bind hN.out hE.out)) (fun l st' w' v Lk he hK => ?_) (fun fl w' he hk' => ?_)
  rotate_left
  · exact ⟨rfl, by rw [← e0.out]; exact hM0.toBad (bad_bind hE.out he) hk'⟩
  replace hE := Eqn.mk (eq_bind hE.out he)
  have hln := binds_len he
  have hnn := Sec.mk (binds_nonneg he)
  clear he
  have hK1 := hK0.step hK.keeps (hK.pw.weaken hK.sub)
  have hrd := hK.reads
  obtain ⟨va, vc, rfl⟩ := hK.shape
  clear hK hK0 hM0 hM
  go_wp2_with (at_builtin; refine push_kids rfl _ _ rfl (by rfl) (by rfl) hK1 hrd (by unfold most at *; simp; omega) ?_; intro v' w2 Lk' hK2)
  have hM : Mid x L w Lk' w2 st' := ⟨hK2.pw, hK2.keeps, hK2.sub⟩
  have hR := Sec.mk hK2.reads
  obtain ⟨va2, vc2, rfl⟩ := hK2.shape
  clear hK2 hK1 hrd
  have hnn2 : Sec (∀ (j : Nat) (y : Int), ([(b : Int)] ++ l)[j]? = some y → 0 ≤ y) := ⟨fun j y hj => by
      cases j with
      | zero => simp at hj; omega
      | succ j => exact hnn.out j y (by simpa using hj)⟩
  clear hnn
  have hnn := hnn2
  clear hnn2
  go_wp2_with fail
  refine (take_any x ⟨#[45, 62]⟩).use hM.pw (ns_bind hN.out hE.out) (fun t1 st' w' he hp' hk' => ?_) (fun fl w' he hk' => ?_)
  rotate_left
  · exact ⟨rfl, by rw [← e0.out]; exact hM.toBad (bad_bind hE.out he) hk'⟩
  replace hE := Eqn.mk (eq_bind hE.out he)
  clear he
  replace hR := Sec.mk (hR.out.keep fun b hb => hk'.mine b hb)
  replace hM := hM.step hk' hp'
  clear hk' hp'
  try dsimp only [eN, eT, eB, eS, eU, eI, eNB]
  go_wp2_with fail
  refine (cE.out).use hM.pw (ns_bind hN.out hE.out) (fun body st' w' he hp' hk' => ?_) (fun fl w' he hk' => ?_)
  rotate_left
  · exact ⟨rfl, by rw [← e0.out]; exact hM.toBad (bad_bind hE.out he) hk'⟩
  replace hE := Eqn.mk (eq_bind hE.out he)
  clear he
  replace hR := Sec.mk (hR.out.keep fun b hb => hk'.mine b hb)
  replace hM := hM.step hk' hp'
  clear hk' hp'
  try dsimp only [eN, eT, eB, eS, eU, eI, eNB]
  go_wp2_with fail
  refine calls_useM (wrap_any x _ ([(b : Int)] ++ l) (some t0.lo) body _ _ _ hM.pw hR.out hnn.out (ns_last hN.out hE.out)) (fun k st' w' he hp' hk' => ?_) (fun fl w' he hk' => ?_)
  rotate_left
  · exact ⟨rfl, by rw [← e0.out]; exact hM.toBad (hE.out.trans he) hk'⟩
  replace hE := Eqn.mk (hE.out.trans he)
  clear he
  replace hR := Sec.mk (hR.out.keep fun b hb => hk'.mine b hb)
  replace hM := hM.step hk' hp'
  clear hk' hp'
  try dsimp only [eN, eT, eB, eS, eU, eI, eNB]
  go_wp2_with fail
  rw [← e0.out]
  exact hM.toOk hE.out

end Go.Proofs.Ytkiijfgoaeiphaa

/- match. -/
set_option linter.unusedVariables false
set_option linter.unusedSimpArgs false
namespace Go.Proofs.Ytkiijfgoaeiphaa
open Go.RowKit
attribute [local go_sem ↓] Go.wp_at_zero Go.wp_at_succ

set_option maxRecDepth 100000 in
set_option maxHeartbeats 1000000 in
theorem match_any (x : Cx) (d : Nat) (E Pt : M Nat) (hd : d ≤ 64) (cE : Meets x 55 #[pp x.g, .int .i64 ((d : Int) + 1)] E eN) (cP : Meets x 80 #[pp x.g, .int .i64 ((d : Int) + 1)] Pt eN) : Meets x 73 #[pp x.g, .int .i64 d] (matchM x.toTxt E Pt) eN := by
  have cA : Sec (Meets x 76 #[pp x.g, .int .i64 ((d : Int) + 1)] (arm x.toTxt E Pt) eN) := ⟨arm_any x (d + 1) E Pt cE cP⟩
  have cE := Sec.mk cE
  clear cP
  intro L w st hp hns
  have hsm := hp.small
  have hE : Eqn ((matchM x.toTxt E Pt) st) ((matchM x.toTxt E Pt) st) := ⟨rfl⟩
  have hN := Sec.mk hns
  have hM := Mid.start hp
  clear hns
  generalize hPost : PostM x L eN w ((matchM x.toTxt E Pt) st) = Post
  have e0 := Sec.mk hPost
  clear hPost
  have flo := run_lo
  have fhi := run_hi
  go_enter Try.func73, Try.ntmps73
  go_wp2_with fail
  go_step3
  go_wp2_with fail
  refine (take_any x ⟨#[109, 97, 116, 99, 104]⟩).use hM.pw (ns_bind hN.out hE.out) (fun t0 st' w' he hp' hk' => ?_) (fun fl w' he hk' => ?_)
  rotate_left
  · exact ⟨rfl, by rw [← e0.out]; exact hM.toBad (bad_bind hE.out he) hk'⟩
  replace hE := Eqn.mk (eq_bind hE.out he)
  clear he
  replace hM := hM.step hk' hp'
  clear hk' hp'
  try dsimp only [eN, eT, eB, eS, eU, eI, eNB]
  go_wp2_with fail
  refine (cE.out).use hM.pw (ns_bind hN.out hE.out) (fun a1 st1 w1 he hp' hk' => ?_) (fun fl w1 he hk' => ?_)
  rotate_left
  · exact ⟨rfl, by rw [← e0.out]; exact hM.toBad (bad_bind hE.out he) hk'⟩
  replace hE := Eqn.mk (eq_bind hE.out he)
  clear he
  replace hM := hM.step hk' hp'
  clear hk' hp'
  try dsimp only [eN, eT, eB, eS, eU, eI, eNB]
  go_wp2_with fail
  have hK := KL.one (w := w) hp hM.keeps hM.pw (a1 : Int)
  replace hM := hM.own (.cells #[.int .i64 (a1 : Int)] 3)
  clear hM
  go_wp2_with fail
  refine (take_any x ⟨#[119, 105, 116, 104]⟩).use hK.pw (ns_bind hN.out hE.out) (fun t1 st' w' he hp' hk' => ?_) (fun fl w' he hk' => ?_)
  rotate_left
  · exact ⟨rfl, by rw [← e0.out]; exact Keeps.toBad (bad_bind hE.out he) (hK.keeps.trans (hk'.weaken hK.sub))⟩
  replace hE := Eqn.mk (eq_bind hE.out he)
  clear he
  replace hK := hK.step hk' hp'
  clear hk' hp'
  try dsimp only [eN, eT, eB, eS, eU, eI, eNB]
  go_wp2_with fail
  refine (skip_any x ⟨#[124]⟩).use hK.pw (ns_bind hN.out hE.out) (fun b0 st2 w2 he hp' hk' => ?_) (fun fl w2 he hk' => ?_)
  rotate_left
  · exact ⟨rfl, by rw [← e0.out]; exact Keeps.toBad (bad_bind hE.out he) (hK.keeps.trans (hk'.weaken hK.sub))⟩
  replace hE := Eqn.mk (eq_bind hE.out he)
  clear he
  replace hK := hK.step hk' hp'
  clear hk' hp'
  try dsimp only [eN, eT, eB, eS, eU, eI, eNB]
  go_wp2_with fail
  go_step3
  go_wp2_with fail
  go_loopg [6] (x.toks.length + 1) (fun n v wr => ∃ l st3 Lk, KL x L w Lk wr v l st3 ∧ Sec (l.length + n = x.toks.length + 2) ∧ Eqn (matchM x.toTxt E Pt st) (M.bind (armsL x.toTxt E Pt n l) (fun kids => M.bind (toOf (lastOf kids)) fun t => add ⟨15, t0.lo, t, 0, ⟨#[]⟩, kids⟩) st3))
  case atStart => exact ⟨_, _, _, hK, ⟨by simp; omega⟩, hE⟩
  case round =>
    clear hE hK
    obtain ⟨l, st3, Lk, hK, hn, hE⟩ := hrel
    cases gk with
    | zero => exact absurd (hE.out.trans rfl) hN.out
    | succ n =>
      replace hE : Eqn (matchM x.toTxt E Pt st) (M.bind (arm x.toTxt E Pt) (fun k => M.bind (M.bind (skip x.toTxt ⟨#[124]⟩) fun b => if b then armsL x.toTxt E Pt n (l ++ [(k : Int)]) else M.ret (l ++ [(k : Int)])) (fun kids => M.bind (toOf (lastOf kids)) fun t => add ⟨15, t0.lo, t, 0, ⟨#[]⟩, kids⟩)) st3) := ⟨hE.out.trans (M.bind_assoc _ _ _ _)⟩
      obtain ⟨sa, sc, hv⟩ := hK.shape
      subst hv
      go_wp2_with fail
      refine (cA.out).use hK.pw (ns_bind hN.out hE.out) (fun k st4 w4 he hp' hk' => ?_) (fun fl w4 he hk' => ?_)
      rotate_left
      · exact ⟨rfl, by rw [← e0.out]; exact Keeps.toBad (bad_bind hE.out he) (hK.keeps.trans (hk'.weaken hK.sub))⟩
      replace hE := Eqn.mk (eq_bind hE.out he)
      clear he
      replace hK := hK.step hk' hp'
      clear hk' hp'
      try dsimp only [eN, eT, eB, eS, eU, eI, eNB]
      go_wp2_with (at_builtin; refine push_kid rfl _ _ rfl (k : Int) (by rfl) (by rfl) hK (by have := hn.out; unfold most at *; omega) ?_; intro v' w5 Lk' hK5)
      clear hK
      have hK := hK5
      clear hK5
      obtain ⟨sa2, sc2, hv⟩ := hK.shape
      subst hv
      have hlen2 : (l ++ [(k : Int)]).length = l.length + 1 := by simp
      rw [hlen2] at hK ⊢
      replace hE := Eqn.mk (hE.out.trans (M.bind_assoc _ _ _ _))
      go_wp2_with fail
      refine (skip_any x ⟨#[124]⟩).use hK.pw (ns_bind hN.out hE.out) (fun b st6 w6 he hp' hk' => ?_) (fun fl w6 he hk' => ?_)
      rotate_left
      · exact ⟨rfl, by rw [← e0.out]; exact Keeps.toBad (bad_bind hE.out he) (hK.keeps.trans (hk'.weaken hK.sub))⟩
      replace hE := Eqn.mk (eq_bind hE.out he)
      clear he
      replace hK := hK.step hk' hp'
      clear hk' hp'
      try dsimp only [eN, eT, eB, eS, eU, eI, eNB]
      cases b with
      | true =>
        go_wp2_with fail
        go_roundg n
        case measure => omega
        case rel => exact ⟨_, _, _, hK, ⟨by have := hn.out; simp; omega⟩, ⟨hE.out.trans rfl⟩⟩
      | false =>
        replace hE : Eqn (matchM x.toTxt E Pt st) (M.bind (toOf (lastOf (l ++ [(k : Int)]))) (fun t => add ⟨15, t0.lo, t, 0, ⟨#[]⟩, l ++ [(k : Int)]⟩) st6) := ⟨hE.out.trans rfl⟩
        have hrd := hK.reads
        obtain ⟨va2, vc2, hv, hva1, hva2, hva3⟩ := hrd
        injection hv with hv1 hv3 hv2
        clear hv3
        subst hv1
        subst hv2
        obtain ⟨vb, vo, rfl, hvb, hvc⟩ := hva3 (by simp)
        have hlc : w6.cell? ⟨vb, vo + l.length, none⟩ = some (.int .i64 k) := hvc l.length k (by simp)
        have hli : lastOf (l ++ [(k : Int)]) = k := by simp [lastOf]
        rw [hli] at hE
        have hM : Mid x L w _ w6 st6 := ⟨hK.pw, hK.keeps, hK.sub⟩
        have hkd := Sec.mk hK.kids
        have hlen : l.length ≤ 1000000000 + 2 := by have := hn.out; unfold most at hsm; omega
        clear hlen2 hvc hva1 hva2 hva3 hK hli
        go_wp2_with fail
        obtain ⟨nt, h1, h2⟩ := toOf_some (ns_bind hN.out hE.out)
        refine (to_still hM.pw h1).mono ?_
        rintro e w1 ⟨rfl, h⟩
        obtain rfl := h.symm
        replace hE := Eqn.mk (eq_bind hE.out h2)
        clear h1 h2
        go_wp2_with fail
        refine calls_useM (add_any x ⟨15, t0.lo, nt.hi, 0, ⟨#[]⟩, l ++ [(k : Int)]⟩ L _ _ _ (hM.pw.weaken hM.sub) hkd.out (ns_last hN.out hE.out)) (fun kk st' w' he hp' hk' => ?_) (fun fl w' he hk' => ?_)
        rotate_left
        · exact ⟨rfl, by rw [← e0.out]; exact Keeps.toBad (hE.out.trans he) (hM.keeps.trans hk')⟩
        replace hE := Eqn.mk (hE.out.trans he)
        try dsimp only [eN]
        go_wp2_with fail
        rw [← e0.out]
        exact hp'.toOk hE.out (hM.keeps.trans hk')

end Go.Proofs.Ytkiijfgoaeiphaa

/- apply; a closure of sum. -/
set_option linter.unusedVariables false
set_option linter.unusedSimpArgs false
namespace Go.Proofs.Ytkiijfgoaeiphaa
open Go.RowKit
attribute [local go_sem ↓] Go.wp_at_zero Go.wp_at_succ

theorem apply_any (x : Cx) (d : Nat) (E : M Nat) (cA : Meets x 89 #[pp x.g, .int .i64 d] (atom x.toTxt E) eN) : Meets x 84 #[pp x.g, .int .i64 d] (apply x.toTxt E) eN := by
  have cA := Sec.mk cA
  intro L w st hp hns
  have hE : Eqn ((apply x.toTxt E) st) ((apply x.toTxt E) st) := ⟨rfl⟩
  have hN := Sec.mk hns
  have hM := Mid.start hp
  clear hns
  generalize hPost : PostM x L eN w ((apply x.toTxt E) st) = Post
  have e0 := Sec.mk hPost
  clear hPost
  have flo := run_lo
  have fhi := run_hi
  go_enter Try.func84, Try.ntmps84
  go_wp2_with fail
  refine (cA.out).use hM.pw (ns_bind hN.out hE.out) (fun l0 st0 w0 he hp' hk' => ?_) (fun fl w0 he hk' => ?_)
  rotate_left
  · exact ⟨rfl, by rw [← e0.out]; exact hM.toBad (bad_bind hE.out he) hk'⟩
  replace hE := Eqn.mk (eq_bind hE.out he)
  clear he
  replace hM := hM.step hk' hp'
  clear hk' hp'
  try dsimp only [eN, eT, eB, eS, eU, eI, eNB]
  go_wp2_with fail
  go_loopg [5, 6] (x.toks.length + 1) (fun n lv rv wr => ∃ (l : Nat) (st1 : PSt), lv = .int .i64 l ∧ Mid x L w L wr st1 ∧ Eqn (apply x.toTxt E st) (applyL x.toTxt E n l st1))
  case atStart => exact ⟨l0, st0, rfl, hM, hE⟩
  case round =>
    clear hE hM
    obtain ⟨l, st1, rfl, hM, hE⟩ := hrel
    cases gk with
    | zero => exact absurd (hE.out.trans rfl) hN.out
    | succ n =>
      cases hb : atomBegins x.toTxt st1 with
      | true =>
        replace hE := Eqn.mk (hE.out.trans (if_pos hb))
        have hB := Sec.mk hb
        clear hb
        go_wp2_with fail
        refine (atomBegins_any x).asks hM.pw hB.out fun w' hp' hk' => ?_
        replace hM := hM.step hk' hp'
        clear hk' hp'
        try dsimp only [eN, eT, eB, eS, eU, eI, eNB]
        go_wp2_with fail
        refine (cA.out).use hM.pw (ns_bind hN.out hE.out) (fun right st2 w2 he hp' hk' => ?_) (fun fl w2 he hk' => ?_)
        rotate_left
        · exact ⟨rfl, by rw [← e0.out]; exact hM.toBad (bad_bind hE.out he) hk'⟩
        replace hE := Eqn.mk (eq_bind hE.out he)
        clear he
        replace hM := hM.step hk' hp'
        clear hk' hp'
        try dsimp only [eN, eT, eB, eS, eU, eI, eNB]
        go_wp2_with fail
        obtain ⟨nf, h1, h2⟩ := fromOf_some (ns_bind hN.out hE.out)
        refine (from_still hM.pw h1).mono ?_
        rintro e w1 ⟨rfl, h⟩
        obtain rfl := h.symm
        replace hE := Eqn.mk (eq_bind hE.out h2)
        clear h1 h2
        go_wp2_with fail
        obtain ⟨nt, h1, h2⟩ := toOf_some (ns_bind hN.out hE.out)
        refine (to_still hM.pw h1).mono ?_
        rintro e w1 ⟨rfl, h⟩
        obtain rfl := h.symm
        replace hE := Eqn.mk (eq_bind hE.out h2)
        clear h1 h2
        go_wp2_with fail
        refine calls_useM (add_any x ⟨11, nf.lo, nt.hi, 0, ⟨#[]⟩, [(l : Int), (right : Int)]⟩ _ _ _ _ (hM.pw.alloc _) (kids_lit _ _ hM.pw.bound [(l : Int), (right : Int)] (by simp)) (ns_bind hN.out hE.out)) (fun k st3 w3 he hp' hk' => ?_) (fun fl w3 he hk' => ?_)
        rotate_left
        · exact ⟨rfl, by rw [← e0.out]; exact (hM.alloc _).toBad (bad_bind hE.out he) hk'⟩
        replace hE := Eqn.mk (eq_bind hE.out he)
        clear he
        replace hM := (hM.alloc _).step hk' hp'
        clear hk' hp'
        try dsimp only [eN]
        go_wp2_with fail
        go_roundg n
        case measure => omega
        case rel => exact ⟨k, st3, rfl, hM, hE⟩
      | false =>
        replace hE := Eqn.mk (hE.out.trans (if_neg (nott hb)))
        have hB := Sec.mk hb
        clear hb
        go_wp2_with fail
        refine (atomBegins_any x).asks hM.pw hB.out fun w' hp' hk' => ?_
        replace hM := hM.step hk' hp'
        clear hk' hp'
        try dsimp only [eN, eT, eB, eS, eU, eI, eNB]
        go_wp2_with fail
        rw [← e0.out]
        exact hM.toOk hE.out

theorem sum11_any (x : Cx) (d pb db : Nat) (L0 : Nat → Prop) (w0 : World) (E : M Nat) (cA : Meets x 84 #[pp x.g, .int .i64 d] (apply x.toTxt E) eN) (hpb : L0 pb) (hdb : L0 db) (c1 : w0.cell? ⟨pb, 0, none⟩ = some (pp x.g)) (c2 : w0.cell? ⟨db, 0, none⟩ = some (.int .i64 d)) : OpMeets x L0 w0 83 #[.pointer (some ⟨pb, 0, none⟩), .pointer (some ⟨db, 0, none⟩)] (apply x.toTxt E) := by
  intro L w st hL hw hp hns
  have b1 : w.cell? ⟨pb, 0, none⟩ = some (pp x.g) := (World.cell?_of_block (hw pb hpb)).trans c1
  have b2 : w.cell? ⟨db, 0, none⟩ = some (.int .i64 d) := (World.cell?_of_block (hw db hdb)).trans c2
  clear c1 c2 hw
  have cA := Sec.mk cA
  have hE : Eqn ((apply x.toTxt E) st) ((apply x.toTxt E) st) := ⟨rfl⟩
  have hN := Sec.mk hns
  have hM := Mid.start hp
  clear hns
  generalize hPost : PostM x L eN w ((apply x.toTxt E) st) = Post
  have e0 := Sec.mk hPost
  clear hPost
  have flo := run_lo
  have fhi := run_hi
  go_enter Try.func83, Try.ntmps83
  go_wp2_with fail
  refine (cA.out).use hM.pw (ns_last hN.out hE.out) (fun k st' w' he hp' hk' => ?_) (fun fl w' he hk' => ?_)
  rotate_left
  · exact ⟨rfl, by rw [← e0.out]; exact hM.toBad (hE.out.trans he) hk'⟩
  replace hE := Eqn.mk (hE.out.trans he)
  clear he
  replace hM := hM.step hk' hp'
  clear hk' hp'
  try dsimp only [eN, eT, eB, eS, eU, eI, eNB]
  go_wp2_with fail
  rw [← e0.out]
  exact hM.toOk hE.out

theorem strs_lit (w : World) (L : Nat → Prop) (ss : List ByteArray) (h : ss.length ≤ 1000) (n : Nat) (hn : n = w.heap.size) : StrsAt (w.alloc (.cells (ss.map Value.string).toArray 9)) (fun i => L i ∨ i = w.heap.size) (.slice (some ⟨n, 0, none⟩) ss.length ss.length) ss := by
  subst hn
  refine ⟨w.heap.size, ss.length, rfl, h, .inr rfl, fun j s hj => ?_⟩
  rw [World.cell?_alloc_new]
  simp [hj]

end Go.Proofs.Ytkiijfgoaeiphaa

/- sum and its closure. -/
set_option linter.unusedVariables false
set_option linter.unusedSimpArgs false
namespace Go.Proofs.Ytkiijfgoaeiphaa
open Go.RowKit
attribute [local go_sem ↓] Go.wp_at_zero Go.wp_at_succ

theorem sum1_any (x : Cx) (d pb db : Nat) (L0 : Nat → Prop) (w0 : World) (E : M Nat) (cA : Meets x 84 #[pp x.g, .int .i64 d] (apply x.toTxt E) eN) (hpb : L0 pb) (hdb : L0 db) (c1 : w0.cell? ⟨pb, 0, none⟩ = some (pp x.g)) (c2 : w0.cell? ⟨db, 0, none⟩ = some (.int .i64 d)) : OpMeets x L0 w0 81 #[.pointer (some ⟨pb, 0, none⟩), .pointer (some ⟨db, 0, none⟩)] (product x.toTxt E) := by
  intro L w st hL hw hp hns
  have b1 : w.cell? ⟨pb, 0, none⟩ = some (pp x.g) := (World.cell?_of_block (hw pb hpb)).trans c1
  have b2 : w.cell? ⟨db, 0, none⟩ = some (.int .i64 d) := (World.cell?_of_block (hw db hdb)).trans c2
  clear c1 c2 hw
  have cA := Sec.mk cA
  have hmf : ∀ (fn : Fn) (first cap : Array Value) (w : World), (Instr.makeFunc fn first cap).run Try.prog w = .ok (.func fn first cap) w := fun _ _ _ _ => rfl
  have hE : Eqn ((product x.toTxt E) st) ((product x.toTxt E) st) := ⟨rfl⟩
  have hN := Sec.mk hns
  have hM := Mid.start hp
  clear hns
  generalize hPost : PostM x L eN w ((product x.toTxt E) st) = Post
  have e0 := Sec.mk hPost
  clear hPost
  have flo := run_lo
  have fhi := run_hi
  go_enter Try.func81, Try.ntmps81
  go_wp2_with fail
  have hM2 := hM.own (.cells ([⟨#[42]⟩].map Value.string).toArray 9)
  have hop := sum11_any x d pb db (fun i => L i ∨ i = w.heap.size) (w.alloc (.cells ([⟨#[42]⟩].map Value.string).toArray 9)) E cA.out (.inl (hL pb hpb)) (.inl (hL db hdb)) ((World.cell?_alloc_lt _ _ _ (hp.bound pb (hL pb hpb))).trans b1) ((World.cell?_alloc_lt _ _ _ (hp.bound db (hL db hdb))).trans b2)
  refine calls_useM (chain_any x 83 #[.pointer (some ⟨pb, 0, none⟩), .pointer (some ⟨db, 0, none⟩)] (apply x.toTxt E) _ [⟨#[42]⟩] (by exact ⟨Try.f83, _, Try.func83, rfl, by kernel_rfl⟩) _ _ _ hM2.pw (strs_lit w L _ (by simp) _ rfl) hop (ns_last hN.out hE.out)) (fun k st' w' he hp' hk' => ?_) (fun fl w' he hk' => ?_)
  rotate_left
  · exact ⟨rfl, by rw [← e0.out]; exact hM2.toBad (hE.out.trans he) hk'⟩
  replace hE := Eqn.mk (hE.out.trans he)
  clear hM he hop
  have hM := hM2
  clear hM2
  replace hM := hM.step hk' hp'
  clear hk' hp'
  try dsimp only [eN, eT, eB, eS, eU, eI, eNB]
  go_wp2_with fail
  rw [← e0.out]
  exact hM.toOk hE.out

theorem sum_any (x : Cx) (d : Nat) (E : M Nat) (cA : Meets x 84 #[pp x.g, .int .i64 d] (apply x.toTxt E) eN) : Meets x 77 #[pp x.g, .int .i64 d] (sum x.toTxt E) eN := by
  have cA := Sec.mk cA
  have hmf : ∀ (fn : Fn) (first cap : Array Value) (w : World), (Instr.makeFunc fn first cap).run Try.prog w = .ok (.func fn first cap) w := fun _ _ _ _ => rfl
  intro L w st hp hns
  have hE : Eqn ((sum x.toTxt E) st) ((sum x.toTxt E) st) := ⟨rfl⟩
  have hN := Sec.mk hns
  have hM := Mid.start hp
  clear hns
  generalize hPost : PostM x L eN w ((sum x.toTxt E) st) = Post
  have e0 := Sec.mk hPost
  clear hPost
  have flo := run_lo
  have fhi := run_hi
  go_enter Try.func77, Try.ntmps77
  go_wp2_with fail
  replace hM := ((hM.own (.cells #[pp x.g] 69)).own (.cells #[.int .i64 (d : Int)] 3)).own (.cells ([⟨#[43]⟩, ⟨#[45]⟩].map Value.string).toArray 9)
  have d1 : (((w.alloc (.cells #[pp x.g] 69)).alloc (.cells #[.int .i64 (d : Int)] 3)).alloc (.cells ([⟨#[43]⟩, ⟨#[45]⟩].map Value.string).toArray 9)).cell? ⟨w.heap.size, 0, none⟩ = some (pp x.g) := by
    rw [World.cell?_alloc_lt _ _ _ (by simp; omega), World.cell?_alloc_lt _ _ _ (by simp), World.cell?_alloc_new]; rfl
  have d2 : (((w.alloc (.cells #[pp x.g] 69)).alloc (.cells #[.int .i64 (d : Int)] 3)).alloc (.cells ([⟨#[43]⟩, ⟨#[45]⟩].map Value.string).toArray 9)).cell? ⟨w.heap.size + 1, 0, none⟩ = some (.int .i64 (d : Int)) := by
    rw [World.cell?_alloc_lt _ _ _ (by simp)]
    rw [show w.heap.size + 1 = (w.alloc (.cells #[pp x.g] 69)).heap.size by simp]
    rw [World.cell?_alloc_new]; rfl
  have hop := sum1_any x d w.heap.size (w.heap.size + 1) (fun i => ((L i ∨ i = w.heap.size) ∨ i = (w.alloc (.cells #[pp x.g] 69)).heap.size) ∨ i = ((w.alloc (.cells #[pp x.g] 69)).alloc (.cells #[.int .i64 (d : Int)] 3)).heap.size) (((w.alloc (.cells #[pp x.g] 69)).alloc (.cells #[.int .i64 (d : Int)] 3)).alloc (.cells ([⟨#[43]⟩, ⟨#[45]⟩].map Value.string).toArray 9)) E cA.out (by simp) (by simp) d1 d2
  have hst := strs_lit ((w.alloc (.cells #[pp x.g] 69)).alloc (.cells #[.int .i64 (d : Int)] 3)) (fun i => (L i ∨ i = w.heap.size) ∨ i = (w.alloc (.cells #[pp x.g] 69)).heap.size) [⟨#[43]⟩, ⟨#[45]⟩] (by simp) (w.heap.size + 1 + 1) (by simp)
  clear d1 d2
  have hfn : ∃ fn c, Try.prog.funcs[(81 : Nat)]? = some fn ∧ fn.body = some c ∧ (fn.name == "runtime.NumGoroutine") = false := (by exact ⟨Try.f81, _, Try.func81, rfl, by kernel_rfl⟩)
  have hch := chain_any x 81 _ (product x.toTxt E) _ [⟨#[43]⟩, ⟨#[45]⟩] hfn _ _ _ hM.pw hst hop (ns_last hN.out hE.out)
  refine calls_useM hch (fun k st' w' he hp' hk' => ?_) (fun fl w' he hk' => ?_)
  rotate_left
  · exact ⟨rfl, by rw [← e0.out]; exact hM.toBad (hE.out.trans he) hk'⟩
  replace hE := Eqn.mk (hE.out.trans he)
  clear he hop hst hch hfn
  replace hM := hM.step hk' hp'
  clear hk' hp'
  try dsimp only [eN, eT, eB, eS, eU, eI, eNB]
  go_wp2_with fail
  rw [← e0.out]
  exact hM.toOk hE.out

end Go.Proofs.Ytkiijfgoaeiphaa

/- brackets. -/
set_option linter.unusedVariables false
set_option linter.unusedSimpArgs false
namespace Go.Proofs.Ytkiijfgoaeiphaa
open Go.RowKit
attribute [local go_sem ↓] Go.wp_at_zero Go.wp_at_succ

set_option maxRecDepth 100000 in
set_option maxHeartbeats 1000000 in
theorem brackets_any (x : Cx) (u tu : Nat) (f : FuncId) (cap : Array Value) (m : M Nat) (hf : ∃ fn c, Try.prog.funcs[f]? = some fn ∧ fn.body = some c ∧ (fn.name == "runtime.NumGoroutine") = false) (L : Nat → Prop) (w : World) (st : PSt) (hp : PW x L w st) (hop : OpMeets x L w f cap m)
    (hns : brackets x.toTxt u tu m st ≠ .stuck) : Calls Try.prog 93 #[pp x.g, .int .i64 u, .int .i64 tu, .func (.func f) #[] cap] w (PostM x L eN w (brackets x.toTxt u tu m st)) := by
  have hcf : ∀ W : World, (callFunc f cap).run Try.prog W = .ok (.enter f cap) W := by
    intro W
    obtain ⟨fn, c, h1, h2, h3⟩ := hf
    simp [callFunc, h1, h2, beq_eq_false_iff_ne.1 h3]
  have hO := Sec.mk hop; clear hop
  have hsm := hp.small
  have hE : Eqn ((brackets x.toTxt u tu m) st) ((brackets x.toTxt u tu m) st) := ⟨rfl⟩
  have hN := Sec.mk hns
  have hM := Mid.start hp
  clear hns
  generalize hPost : PostM x L eN w ((brackets x.toTxt u tu m) st) = Post
  have e0 := Sec.mk hPost
  clear hPost
  have flo := run_lo
  have fhi := run_hi
  go_enter Try.func93, Try.ntmps93
  go_wp2_with fail
  refine (take_any x ⟨#[40]⟩).use hM.pw (ns_bind hN.out hE.out) (fun t0 st' w' he hp' hk' => ?_) (fun fl w' he hk' => ?_)
  rotate_left
  · exact ⟨rfl, by rw [← e0.out]; exact hM.toBad (bad_bind hE.out he) hk'⟩
  replace hE := Eqn.mk (eq_bind hE.out he)
  clear he
  replace hM := hM.step hk' hp'
  clear hk' hp'
  try dsimp only [eN, eT, eB, eS, eU, eI, eNB]
  cases hb : isW x.toTxt ⟨#[41]⟩ st' with
  | true =>
    replace hE := Eqn.mk (hE.out.trans (if_pos hb))
    have hB := Sec.mk hb
    clear hb
    go_wp2_with fail
    refine (is_any' x ⟨#[41]⟩).asks hM.pw hB.out fun w' hp' hk' => ?_
    replace hM := hM.step hk' hp'
    clear hk' hp'
    try dsimp only [eN, eT, eB, eS, eU, eI, eNB]
    go_wp2_with fail
    refine (next_any x).use hM.pw (ns_bind hN.out hE.out) (fun t st2 w2 he hp' hk' => ?_) (fun fl w2 he hk' => ?_)
    rotate_left
    · exact ⟨rfl, by rw [← e0.out]; exact hM.toBad (bad_bind hE.out he) hk'⟩
    replace hE := Eqn.mk (eq_bind hE.out he)
    clear he
    replace hM := hM.step hk' hp'
    clear hk' hp'
    try dsimp only [eN, eT, eB, eS, eU, eI, eNB]
    go_wp2_with fail
    refine calls_useM (add_any x ⟨u, t0.lo, t.hi, 0, ⟨#[]⟩, []⟩ _ _ _ _ hM.pw (kids_nil _ _) (ns_last hN.out hE.out)) (fun k st3 w3 he hp' hk' => ?_) (fun fl w3 he hk' => ?_)
    rotate_left
    · exact ⟨rfl, by rw [← e0.out]; exact hM.toBad (hE.out.trans he) hk'⟩
    replace hE := Eqn.mk (hE.out.trans he)
    clear he
    replace hM := hM.step hk' hp'
    clear hk' hp'
    try dsimp only [eN, eT, eB, eS, eU, eI, eNB]
    go_wp2_with fail
    rw [← e0.out]
    exact hM.toOk hE.out
  | false =>
    replace hE := Eqn.mk (hE.out.trans (if_neg (nott hb)))
    have hB := Sec.mk hb
    clear hb
    go_wp2_with fail
    refine (is_any' x ⟨#[41]⟩).asks hM.pw hB.out fun w' hp' hk' => ?_
    replace hM := hM.step hk' hp'
    clear hk' hp'
    try dsimp only [eN, eT, eB, eS, eU, eI, eNB]
    go_wp2_with fail
    refine calls_useM (hO.out _ _ _ hM.sub (fun i hi => hM.keeps.mine i hi) hM.pw (ns_bind hN.out hE.out)) (fun k0 st2 w2 he hp' hk' => ?_) (fun fl w2 he hk' => ?_)
    rotate_left
    · exact ⟨rfl, by rw [← e0.out]; exact hM.toBad (bad_bind hE.out he) hk'⟩
    replace hE := Eqn.mk (eq_bind hE.out he)
    clear he
    replace hM := hM.step hk' hp'
    clear hk' hp'
    try dsimp only [eN, eT, eB, eS, eU, eI, eNB]
    go_wp2_with fail
    have hK := KL.one (w := w) hp hM.keeps hM.pw (k0 : Int)
    clear hM
    go_wp2_with fail
    go_loopg [10] (x.toks.length + 1) (fun n v wr => ∃ l st3 Lk, KL x L w Lk wr v l st3 ∧ Sec (l.length + n = x.toks.length + 2) ∧ Sec (∃ r, l = (k0 : Int) :: r) ∧ Eqn (brackets x.toTxt u tu m st) (M.bind (rowL x.toTxt m n l) (fun kids => M.bind (take x.toTxt ⟨#[41]⟩) fun t => if kids.length = 1 then M.ret k0 else add ⟨tu, t0.lo, t.hi, 0, ⟨#[]⟩, kids⟩) st3))
    case atStart => exact ⟨_, _, _, hK, ⟨by simp; omega⟩, ⟨_, rfl⟩, hE⟩
    case round =>
      clear hE hK
      obtain ⟨l, st3, Lk, hK, hn, hr, hE⟩ := hrel
      cases gk with
      | zero => exact absurd (hE.out.trans rfl) hN.out
      | succ n =>
        replace hE : Eqn (brackets x.toTxt u tu m st) (M.bind (skip x.toTxt ⟨#[44]⟩) (fun b => M.bind (if b then M.bind m fun k => rowL x.toTxt m n (l ++ [(k : Int)]) else M.ret l) (fun kids => M.bind (take x.toTxt ⟨#[41]⟩) fun t => if kids.length = 1 then M.ret k0 else add ⟨tu, t0.lo, t.hi, 0, ⟨#[]⟩, kids⟩)) st3) := ⟨hE.out.trans (M.bind_assoc _ _ _ _)⟩
        obtain ⟨sa, sc, hv⟩ := hK.shape
        subst hv
        go_wp2_with fail
        refine (skip_any x ⟨#[44]⟩).use hK.pw (ns_bind hN.out hE.out) (fun b st4 w4 he hp' hk' => ?_) (fun fl w4 he hk' => ?_)
        rotate_left
        · exact ⟨rfl, by rw [← e0.out]; exact Keeps.toBad (bad_bind hE.out he) (hK.keeps.trans (hk'.weaken hK.sub))⟩
        replace hE := Eqn.mk (eq_bind hE.out he)
        clear he
        replace hK := hK.step hk' hp'
        clear hk' hp'
        try dsimp only [eN, eT, eB, eS, eU, eI, eNB]
        cases b with
        | true =>
          replace hE : Eqn (brackets x.toTxt u tu m st) (M.bind m (fun k => M.bind (rowL x.toTxt m n (l ++ [(k : Int)])) (fun kids => M.bind (take x.toTxt ⟨#[41]⟩) fun t => if kids.length = 1 then M.ret k0 else add ⟨tu, t0.lo, t.hi, 0, ⟨#[]⟩, kids⟩)) st4) := ⟨hE.out.trans (M.bind_assoc _ _ _ _)⟩
          go_wp2_with fail
          refine calls_useM (hO.out _ _ _ hK.sub (fun i hi => hK.keeps.mine i hi) hK.pw (ns_bind hN.out hE.out)) (fun k st5 w5 he hp' hk' => ?_) (fun fl w5 he hk' => ?_)
          rotate_left
          · exact ⟨rfl, by rw [← e0.out]; exact Keeps.toBad (bad_bind hE.out he) (hK.keeps.trans (hk'.weaken hK.sub))⟩
          replace hE := Eqn.mk (eq_bind hE.out he)
          clear he
          replace hK := hK.step hk' hp'
          clear hk' hp'
          try dsimp only [eN, eT, eB, eS, eU, eI, eNB]
          go_wp2_with (at_builtin; refine push_kid rfl _ _ rfl (k : Int) (by rfl) (by rfl) hK (by have := hn.out; unfold most at *; omega) ?_; intro v' w6 Lk' hK6)
          clear hK
          go_roundg n
          case measure => omega
          case rel => exact ⟨_, _, _, hK6, ⟨by have := hn.out; simp; omega⟩, ⟨by obtain ⟨r, rfl⟩ := hr.out; exact ⟨r ++ [(k : Int)], rfl⟩⟩, hE⟩
        | false =>
          replace hE : Eqn (brackets x.toTxt u tu m st) (M.bind (take x.toTxt ⟨#[41]⟩) (fun t => if l.length = 1 then M.ret k0 else add ⟨tu, t0.lo, t.hi, 0, ⟨#[]⟩, l⟩) st4) := ⟨hE.out.trans rfl⟩
          go_wp2_with fail
          refine (take_any x ⟨#[41]⟩).use hK.pw (ns_bind hN.out hE.out) (fun t st5 w5 he hp' hk' => ?_) (fun fl w5 he hk' => ?_)
          rotate_left
          · exact ⟨rfl, by rw [← e0.out]; exact Keeps.toBad (bad_bind hE.out he) (hK.keeps.trans (hk'.weaken hK.sub))⟩
          replace hE := Eqn.mk (eq_bind hE.out he)
          clear he
          replace hK := hK.step hk' hp'
          clear hk' hp'
          try dsimp only [eN, eT, eB, eS, eU, eI, eNB]
          have hl0 : l[0]? = some (k0 : Int) := by obtain ⟨r, h⟩ := hr.out; rw [h]; rfl
          have hrd := hK.reads
          obtain ⟨va2, vc2, hv, hva1, hva2, hva3⟩ := hrd
          injection hv with hv1 hv3 hv2
          clear hv3
          subst hv1
          subst hv2
          obtain ⟨vb, vo, rfl, hvb, hvc⟩ := hva3 (by intro h; rw [h] at hl0; cases hl0)
          have hlc : w5.cell? ⟨vb, vo, none⟩ = some (.int .i64 k0) := by simpa using hvc 0 _ hl0
          have hM : Mid x L w _ w5 st5 := ⟨hK.pw, hK.keeps, hK.sub⟩
          have hkd := Sec.mk hK.kids
          have hlen : l.length ≤ 1000000000 + 2 := by have := hn.out; unfold most at hsm; omega
          clear hvc hva1 hva2 hva3 hK hl0 hr
          by_cases h1 : l.length = 1
          · replace hE := Eqn.mk (hE.out.trans (congrFun (if_pos h1) _))
            have hq : ((l.length : Int) == 1) = true := by rw [h1]; rfl
            have hq2 : (0 : Int) < (l.length : Int) := by omega
            clear h1
            go_wp2_with fail
            rw [← e0.out]
            exact hM.toOk hE.out
          · replace hE := Eqn.mk (hE.out.trans (congrFun (if_neg h1) _))
            have hq : ((l.length : Int) == 1) = false := by rw [beq_eq_false_iff_ne]; omega
            clear h1
            go_wp2_with fail
            refine calls_useM (add_any x ⟨tu, t0.lo, t.hi, 0, ⟨#[]⟩, l⟩ L _ _ _ (hM.pw.weaken hM.sub) hkd.out (ns_last hN.out hE.out)) (fun kk st' w' he hp' hk' => ?_) (fun fl w' he hk' => ?_)
            rotate_left
            · exact ⟨rfl, by rw [← e0.out]; exact Keeps.toBad (hE.out.trans he) (hM.keeps.trans hk')⟩
            replace hE := Eqn.mk (hE.out.trans he)
            try dsimp only [eN]
            go_wp2_with fail
            rw [← e0.out]
            exact hp'.toOk hE.out (hM.keeps.trans hk')

end Go.Proofs.Ytkiijfgoaeiphaa

/- atom and its closure. -/
set_option linter.unusedVariables false
set_option linter.unusedSimpArgs false
namespace Go.Proofs.Ytkiijfgoaeiphaa
open Go.RowKit
attribute [local go_sem ↓] Go.wp_at_zero Go.wp_at_succ

theorem next_ok {x : Txt} {st : PSt} (h : next x st ≠ .stuck) : ∃ t, next x st = .ok t { st with pos := st.pos + 1 } := by
  simp only [next] at h ⊢
  split
  · exact ⟨_, rfl⟩
  · rename_i hh; simp [hh] at h
/-- What a region needs that reads a token's box, and the box of the parser's pointer. -/
def HeldT (x : Cx) (pb tb : Nat) (t : Tok) (w : World) : Prop :=
  w.cell? ⟨pb, 0, none⟩ = some (pp x.g) ∧ w.cell? ⟨tb, 0, none⟩ = some (.int .i64 t.kind) ∧ w.cell? ⟨tb, 1, none⟩ = some (.int .i64 t.lo) ∧ w.cell? ⟨tb, 2, none⟩ = some (.int .i64 t.hi)
def HeldN (tb : Nat) (t : Tok) (w : World) : Prop :=
  w.cell? ⟨tb, 0, none⟩ = some (.int .i64 t.kind) ∧ w.cell? ⟨tb, 1, none⟩ = some (.int .i64 t.lo) ∧ w.cell? ⟨tb, 2, none⟩ = some (.int .i64 t.hi)
theorem HeldN.keep {tb : Nat} {t : Tok} {w w' : World} {L : Nat → Prop} {g : Nat} (hk : Keeps g L w w') (h2 : L tb) (h : HeldN tb t w) : HeldN tb t w' :=
  ⟨(hk.cell (.inr h2)).trans h.1, (hk.cell (.inr h2)).trans h.2.1, (hk.cell (.inr h2)).trans h.2.2⟩
theorem HeldN.alloc {tb : Nat} {t : Tok} {w : World} {o : Obj} (h2 : tb < w.heap.size) (h : HeldN tb t w) : HeldN tb t (w.alloc o) :=
  ⟨(World.cell?_alloc_lt _ _ _ h2).trans h.1, (World.cell?_alloc_lt _ _ _ h2).trans h.2.1, (World.cell?_alloc_lt _ _ _ h2).trans h.2.2⟩
/-- A node's box that has just been made. -/
theorem ndBox_at {W W' : World} {nb : Nat} (hn : nb = W.heap.size) (hb : W'.heap[nb]? = (W.alloc (.cells #[.int .i64 0, .int .i64 0, .int .i64 0, .int .i64 0, .string ⟨#[]⟩, .slice none 0 0] 53)).heap[nb]?) :
    W'.cell? ⟨nb, 0, none⟩ = some (.int .i64 0) ∧ W'.cell? ⟨nb, 1, none⟩ = some (.int .i64 0) ∧ W'.cell? ⟨nb, 2, none⟩ = some (.int .i64 0) ∧ W'.cell? ⟨nb, 3, none⟩ = some (.int .i64 0) ∧ W'.cell? ⟨nb, 4, none⟩ = some (.string ⟨#[]⟩) ∧ W'.cell? ⟨nb, 5, none⟩ = some (.slice none 0 0) ∧ ∀ o, W'.frozen? ⟨nb, o, none⟩ = false := by
  subst hn
  refine ⟨?_, ?_, ?_, ?_, ?_, ?_, fun o => ?_⟩
  · rw [World.cell?_of_block hb]; simp
  · rw [World.cell?_of_block hb]; simp
  · rw [World.cell?_of_block hb]; simp
  · rw [World.cell?_of_block hb]; simp
  · rw [World.cell?_of_block hb]; simp
  · rw [World.cell?_of_block hb]; simp
  · rw [heap_alloc_new] at hb
    simp [World.frozen?, hb]
theorem HeldT.keep {x : Cx} {pb tb : Nat} {t : Tok} {w w' : World} {L : Nat → Prop} {g : Nat} (hk : Keeps g L w w') (h1 : L pb) (h2 : L tb) (h : HeldT x pb tb t w) : HeldT x pb tb t w' :=
  ⟨(hk.cell (.inr h1)).trans h.1, (hk.cell (.inr h2)).trans h.2.1, (hk.cell (.inr h2)).trans h.2.2.1, (hk.cell (.inr h2)).trans h.2.2.2⟩
theorem atom1_any (x : Cx) (d pb db : Nat) (L0 : Nat → Prop) (w0 : World) (E : M Nat) (hd : d ≤ 64) (cE : Meets x 55 #[pp x.g, .int .i64 ((d : Int) + 1)] E eN) (hpb : L0 pb) (hdb : L0 db) (c1 : w0.cell? ⟨pb, 0, none⟩ = some (pp x.g)) (c2 : w0.cell? ⟨db, 0, none⟩ = some (.int .i64 d)) : OpMeets x L0 w0 95 #[.pointer (some ⟨pb, 0, none⟩), .pointer (some ⟨db, 0, none⟩)] E := by
  have cE := Sec.mk cE
  intro L w st hL hw hp hns
  have b1 : w.cell? ⟨pb, 0, none⟩ = some (pp x.g) := (World.cell?_of_block (hw pb hpb)).trans c1
  have b2 : w.cell? ⟨db, 0, none⟩ = some (.int .i64 d) := (World.cell?_of_block (hw db hdb)).trans c2
  clear c1 c2 hw
  have hE : Eqn ((E) st) ((E) st) := ⟨rfl⟩
  have hN := Sec.mk hns
  have hM := Mid.start hp
  clear hns
  generalize hPost : PostM x L eN w ((E) st) = Post
  have e0 := Sec.mk hPost
  clear hPost
  have flo := run_lo
  have fhi := run_hi
  go_enter Try.func95, Try.ntmps95
  go_wp2_with fail
  refine (cE.out).use hM.pw (ns_last hN.out hE.out) (fun k st' w' he hp' hk' => ?_) (fun fl w' he hk' => ?_)
  rotate_left
  · exact ⟨rfl, by rw [← e0.out]; exact hM.toBad (hE.out.trans he) hk'⟩
  replace hE := Eqn.mk (hE.out.trans he)
  clear he
  replace hM := hM.step hk' hp'
  clear hk' hp'
  try dsimp only [eN, eT, eB, eS, eU, eI, eNB]
  go_wp2_with fail
  rw [← e0.out]
  exact hM.toOk hE.out

set_option maxRecDepth 100000 in
set_option maxHeartbeats 2000000 in
theorem atom_any (x : Cx) (d : Nat) (E : M Nat) (hd : d ≤ 64) (cE : Meets x 55 #[pp x.g, .int .i64 ((d : Int) + 1)] E eN) : Meets x 89 #[pp x.g, .int .i64 d] (atom x.toTxt E) eN := by
  have cE := Sec.mk cE
  have hmf : ∀ (fn : Fn) (first cap : Array Value) (w : World), (Instr.makeFunc fn first cap).run Try.prog w = .ok (.func fn first cap) w := fun _ _ _ _ => rfl
  intro L w st hp hns
  have hE : Eqn ((atom x.toTxt E) st) ((atom x.toTxt E) st) := ⟨rfl⟩
  have hN := Sec.mk hns
  have hM := Mid.start hp
  clear hns
  generalize hPost : PostM x L eN w ((atom x.toTxt E) st) = Post
  have e0 := Sec.mk hPost
  clear hPost
  have flo := run_lo
  have fhi := run_hi
  go_enter Try.func89, Try.ntmps89
  go_wp2_with fail
  have b1 : ((w.alloc (.cells #[pp x.g] 69)).alloc (.cells #[.int .i64 (d : Int)] 3)).cell? ⟨w.heap.size, 0, none⟩ = some (pp x.g) := by
    rw [World.cell?_alloc_lt _ _ _ (by simp), World.cell?_alloc_new]; rfl
  have b2 : ((w.alloc (.cells #[pp x.g] 69)).alloc (.cells #[.int .i64 (d : Int)] 3)).cell? ⟨w.heap.size + 1, 0, none⟩ = some (.int .i64 (d : Int)) := by
    rw [show w.heap.size + 1 = (w.alloc (.cells #[pp x.g] 69)).heap.size by simp]
    rw [World.cell?_alloc_new]; rfl
  obtain ⟨LB, hMB, hpb, hdb⟩ : ∃ LB : Nat → Prop, Mid x L w LB ((w.alloc (.cells #[pp x.g] 69)).alloc (.cells #[.int .i64 (d : Int)] 3)) st ∧ LB w.heap.size ∧ LB (w.heap.size + 1) := ⟨_, (hM.own (.cells #[pp x.g] 69)).own (.cells #[.int .i64 (d : Int)] 3), .inl (.inr rfl), .inr (by simp)⟩
  replace hM := hMB
  clear hMB
  cases hb : atomBegins x.toTxt st with
  | true =>
    replace hE := Eqn.mk (hE.out.trans (if_pos hb))
    have hB := Sec.mk hb
    clear hb
    go_wp2_with fail
    refine (atomBegins_any x).asks hM.pw hB.out fun w' hp' hk' => ?_
    replace b1 := (hk'.cell (.inr hpb)).trans b1
    replace b2 := (hk'.cell (.inr hdb)).trans b2
    replace hM := hM.step hk' hp'
    clear hk' hp'
    try dsimp only [eN, eT, eB, eS, eU, eI, eNB]
    go_wp2_with fail
    obtain ⟨nv, hnv⟩ : ∃ nv, number x.toTxt st = nv := ⟨_, rfl⟩
    obtain ⟨v, ok⟩ := nv
    cases ok with
    | true =>
      replace hE := Eqn.mk (hE.out.trans (if_pos (by rw [hnv])))
      rw [hnv] at hE
      replace hnv := Sec.mk hnv
      go_wp2_with fail
      refine (number_any x).asks hM.pw hnv.out fun w' hp' hk' => ?_
      replace b1 := (hk'.cell (.inr hpb)).trans b1
      replace b2 := (hk'.cell (.inr hdb)).trans b2
      replace hM := hM.step hk' hp'
      clear hk' hp'
      try dsimp only [eN, eT, eB, eS, eU, eI, eNB]
      go_wp2_with fail
      obtain ⟨t, hnx⟩ := next_ok (ns_bind hN.out hE.out)
      replace hE := Eqn.mk (eq_bind hE.out hnx)
      have hlf := Sec.mk (leaf_ok (kind := 7) (num := v) (name := ⟨#[]⟩) (ns_last hN.out hE.out))
      replace hnx := Sec.mk hnx
      replace hE := Eqn.mk (hE.out.trans hlf.out)
      go_region_held3 (fun w' => w'.cell? ⟨w.heap.size, 0, none⟩ = some (pp x.g))
        (first | exact (hk3.cell (.inr hpb)).trans ((hk2.cell (.inr hpb)).trans b1) | exact (hk2.cell (.inr hpb)).trans b1 | go_keep)
        (first | ((go_at_call 66; refine (next_any x).useOk hM.pw.drew hnx.out fun w2 hp2 hk2 => ?_; dsimp only [eT])) | ((go_at_call 67; refine (leaf_any x 7 v ⟨#[]⟩ t).useOk hp2 hlf.out fun w3 hp3 hk3 => ?_; dsimp only [eN])))
      replace hM := (hM.drew.step hk2 hp2).step hk3 hp3
      clear hk2 hk3 hp2 hp3
      go_wp2_with fail
      rw [← e0.out]
      exact hM.toOk hE.out
    | false =>
      replace hE := Eqn.mk (hE.out.trans (if_neg (by rw [hnv]; exact Bool.false_ne_true)))
      replace hnv := Sec.mk hnv
      go_wp2_with fail
      refine (number_any x).asks hM.pw hnv.out fun w' hp' hk' => ?_
      replace b1 := (hk'.cell (.inr hpb)).trans b1
      replace b2 := (hk'.cell (.inr hdb)).trans b2
      replace hM := hM.step hk' hp'
      clear hk' hp'
      try dsimp only [eN, eT, eB, eS, eU, eI, eNB]
      cases hb : isK x.toTxt 1 st with
      | true =>
        replace hE := Eqn.mk (hE.out.trans (if_pos hb))
        have hB := Sec.mk hb
        clear hb
        go_wp2_with fail
        refine (kind_any x 1).asks hM.pw hB.out fun w' hp' hk' => ?_
        replace b1 := (hk'.cell (.inr hpb)).trans b1
        replace b2 := (hk'.cell (.inr hdb)).trans b2
        replace hM := hM.step hk' hp'
        clear hk' hp'
        try dsimp only [eN, eT, eB, eS, eU, eI, eNB]
        go_wp2_with fail
        refine (next_any x).use hM.pw (ns_bind hN.out hE.out) (fun t st2 w2 he hp' hk' => ?_) (fun fl w2 he hk' => ?_)
        rotate_left
        · exact ⟨rfl, by rw [← e0.out]; exact hM.toBad (bad_bind hE.out he) hk'⟩
        replace hE := Eqn.mk (eq_bind hE.out he)
        clear he
        replace b1 := (hk'.cell (.inr hpb)).trans b1
        replace b2 := (hk'.cell (.inr hdb)).trans b2
        replace hM := hM.step hk' hp'
        clear hk' hp'
        try dsimp only [eN, eT, eB, eS, eU, eI, eNB]
        have hlf := Sec.mk (leaf_ok (kind := 5) (num := 0) (name := wordOf x.s t) (ns_last hN.out hE.out))
        replace hE := Eqn.mk (hE.out.trans hlf.out)
        have hS : Sec (HeldT x w.heap.size w2.heap.size t (w2.alloc (.cells #[.int .i64 t.kind, .int .i64 t.lo, .int .i64 t.hi] 31))) := ⟨(World.cell?_alloc_lt _ _ _ (hM.pw.bound _ hpb)).trans b1, by simp, by simp, by simp⟩
        obtain ⟨LC, hMC, hpb, htb⟩ : ∃ LC : Nat → Prop, Mid x L w LC (w2.alloc (.cells #[.int .i64 t.kind, .int .i64 t.lo, .int .i64 t.hi] 31)) st2 ∧ LC w.heap.size ∧ LC w2.heap.size := ⟨_, hM.own (.cells #[.int .i64 t.kind, .int .i64 t.lo, .int .i64 t.hi] 31), .inl hpb, .inr rfl⟩
        replace hM := hMC
        clear hMC
        obtain ⟨tk, tl, th⟩ := t
        go_wp2_with fail
        go_region_held3 (fun w' => w'.cell? ⟨w.heap.size, 0, none⟩ = some (pp x.g) ∧ w'.cell? ⟨w2.heap.size, 0, none⟩ = some (.int .i64 tk) ∧ w'.cell? ⟨w2.heap.size, 1, none⟩ = some (.int .i64 tl) ∧ w'.cell? ⟨w2.heap.size, 2, none⟩ = some (.int .i64 th))
          (first | exact HeldT.keep (t := ⟨tk, tl, th⟩) hk4 hpb htb (HeldT.keep hk3 hpb htb hS.out) | exact HeldT.keep (t := ⟨tk, tl, th⟩) hk3 hpb htb hS.out | exact hS.out | go_keep)
          (first | ((go_at_call 62; refine (pword_any x ⟨tk, tl, th⟩).asks hM.pw.drew rfl fun w3 hp3 hk3 => ?_; dsimp only [eS])) | ((go_at_call 67; refine (leaf_any x 5 0 (wordOf x.s ⟨tk, tl, th⟩) ⟨tk, tl, th⟩).useOk hp3 hlf.out fun w4 hp4 hk4 => ?_; dsimp only [eN])))
        replace hM := (hM.drew.step hk3 hp3).step hk4 hp4
        clear hk3 hk4 hp3 hp4
        go_wp2_with fail
        rw [← e0.out]
        exact hM.toOk hE.out
      | false =>
        replace hE := Eqn.mk (hE.out.trans (if_neg (nott hb)))
        have hB := Sec.mk hb
        clear hb
        go_wp2_with fail
        refine (kind_any x 1).asks hM.pw hB.out fun w' hp' hk' => ?_
        replace b1 := (hk'.cell (.inr hpb)).trans b1
        replace b2 := (hk'.cell (.inr hdb)).trans b2
        replace hM := hM.step hk' hp'
        clear hk' hp'
        try dsimp only [eN, eT, eB, eS, eU, eI, eNB]
        cases hb : isK x.toTxt 2 st with
        | true =>
          replace hE := Eqn.mk (hE.out.trans (if_pos hb))
          have hB := Sec.mk hb
          clear hb
          go_wp2_with fail
          refine (kind_any x 2).asks hM.pw hB.out fun w' hp' hk' => ?_
          replace b1 := (hk'.cell (.inr hpb)).trans b1
          replace b2 := (hk'.cell (.inr hdb)).trans b2
          replace hM := hM.step hk' hp'
          clear hk' hp'
          try dsimp only [eN, eT, eB, eS, eU, eI, eNB]
          go_wp2_with fail
          refine (next_any x).use hM.pw (ns_bind hN.out hE.out) (fun t st2 w2 he hp' hk' => ?_) (fun fl w2 he hk' => ?_)
          rotate_left
          · exact ⟨rfl, by rw [← e0.out]; exact hM.toBad (bad_bind hE.out he) hk'⟩
          replace hE := Eqn.mk (eq_bind hE.out he)
          clear he
          replace b1 := (hk'.cell (.inr hpb)).trans b1
          replace b2 := (hk'.cell (.inr hdb)).trans b2
          replace hM := hM.step hk' hp'
          clear hk' hp'
          try dsimp only [eN, eT, eB, eS, eU, eI, eNB]
          have hlf := Sec.mk (leaf_ok (kind := 6) (num := 0) (name := wordOf x.s t) (ns_last hN.out hE.out))
          replace hE := Eqn.mk (hE.out.trans hlf.out)
          have hS : Sec (HeldT x w.heap.size w2.heap.size t (w2.alloc (.cells #[.int .i64 t.kind, .int .i64 t.lo, .int .i64 t.hi] 31))) := ⟨(World.cell?_alloc_lt _ _ _ (hM.pw.bound _ hpb)).trans b1, by simp, by simp, by simp⟩
          obtain ⟨LC, hMC, hpb, htb⟩ : ∃ LC : Nat → Prop, Mid x L w LC (w2.alloc (.cells #[.int .i64 t.kind, .int .i64 t.lo, .int .i64 t.hi] 31)) st2 ∧ LC w.heap.size ∧ LC w2.heap.size := ⟨_, hM.own (.cells #[.int .i64 t.kind, .int .i64 t.lo, .int .i64 t.hi] 31), .inl hpb, .inr rfl⟩
          replace hM := hMC
          clear hMC
          obtain ⟨tk, tl, th⟩ := t
          go_wp2_with fail
          go_region_held3 (fun w' => w'.cell? ⟨w.heap.size, 0, none⟩ = some (pp x.g) ∧ w'.cell? ⟨w2.heap.size, 0, none⟩ = some (.int .i64 tk) ∧ w'.cell? ⟨w2.heap.size, 1, none⟩ = some (.int .i64 tl) ∧ w'.cell? ⟨w2.heap.size, 2, none⟩ = some (.int .i64 th))
            (first | exact HeldT.keep (t := ⟨tk, tl, th⟩) hk4 hpb htb (HeldT.keep hk3 hpb htb hS.out) | exact HeldT.keep (t := ⟨tk, tl, th⟩) hk3 hpb htb hS.out | exact hS.out | go_keep)
            (first | ((go_at_call 62; refine (pword_any x ⟨tk, tl, th⟩).asks hM.pw.drew rfl fun w3 hp3 hk3 => ?_; dsimp only [eS])) | ((go_at_call 67; refine (leaf_any x 6 0 (wordOf x.s ⟨tk, tl, th⟩) ⟨tk, tl, th⟩).useOk hp3 hlf.out fun w4 hp4 hk4 => ?_; dsimp only [eN])))
          replace hM := (hM.drew.step hk3 hp3).step hk4 hp4
          clear hk3 hk4 hp3 hp4
          go_wp2_with fail
          rw [← e0.out]
          exact hM.toOk hE.out
        | false =>
          replace hE := Eqn.mk (hE.out.trans (if_neg (nott hb)))
          have hB := Sec.mk hb
          clear hb
          go_wp2_with fail
          refine (kind_any x 2).asks hM.pw hB.out fun w' hp' hk' => ?_
          replace b1 := (hk'.cell (.inr hpb)).trans b1
          replace b2 := (hk'.cell (.inr hdb)).trans b2
          replace hM := hM.step hk' hp'
          clear hk' hp'
          try dsimp only [eN, eT, eB, eS, eU, eI, eNB]
          cases hb : isW x.toTxt ⟨#[116, 114, 117, 101]⟩ st with
          | true =>
            replace hE := Eqn.mk (hE.out.trans (if_pos hb))
            have hB := Sec.mk hb
            clear hb
            go_wp2_with fail
            refine (is_any' x ⟨#[116, 114, 117, 101]⟩).asks hM.pw hB.out fun w' hp' hk' => ?_
            replace b1 := (hk'.cell (.inr hpb)).trans b1
            replace b2 := (hk'.cell (.inr hdb)).trans b2
            replace hM := hM.step hk' hp'
            clear hk' hp'
            try dsimp only [eN, eT, eB, eS, eU, eI, eNB]
            go_wp2_with fail
            obtain ⟨t, hnx⟩ := next_ok (ns_bind hN.out hE.out)
            replace hE := Eqn.mk (eq_bind hE.out hnx)
            have hlf := Sec.mk (leaf_ok (kind := 8) (num := 1) (name := ⟨#[]⟩) (ns_last hN.out hE.out))
            replace hnx := Sec.mk hnx
            replace hE := Eqn.mk (hE.out.trans hlf.out)
            go_region_held3 (fun w' => w'.cell? ⟨w.heap.size, 0, none⟩ = some (pp x.g))
              (first | exact (hk3.cell (.inr hpb)).trans ((hk2.cell (.inr hpb)).trans b1) | exact (hk2.cell (.inr hpb)).trans b1 | go_keep)
              (first | ((go_at_call 66; refine (next_any x).useOk hM.pw.drew hnx.out fun w2 hp2 hk2 => ?_; dsimp only [eT])) | ((go_at_call 67; refine (leaf_any x 8 1 ⟨#[]⟩ t).useOk hp2 hlf.out fun w3 hp3 hk3 => ?_; dsimp only [eN])))
            replace hM := (hM.drew.step hk2 hp2).step hk3 hp3
            clear hk2 hk3 hp2 hp3
            go_wp2_with fail
            rw [← e0.out]
            exact hM.toOk hE.out
          | false =>
            replace hE := Eqn.mk (hE.out.trans (if_neg (nott hb)))
            have hB := Sec.mk hb
            clear hb
            go_wp2_with fail
            refine (is_any' x ⟨#[116, 114, 117, 101]⟩).asks hM.pw hB.out fun w' hp' hk' => ?_
            replace b1 := (hk'.cell (.inr hpb)).trans b1
            replace b2 := (hk'.cell (.inr hdb)).trans b2
            replace hM := hM.step hk' hp'
            clear hk' hp'
            try dsimp only [eN, eT, eB, eS, eU, eI, eNB]
            cases hb : isW x.toTxt ⟨#[102, 97, 108, 115, 101]⟩ st with
            | true =>
              replace hE := Eqn.mk (hE.out.trans (if_pos hb))
              have hB := Sec.mk hb
              clear hb
              go_wp2_with fail
              refine (is_any' x ⟨#[102, 97, 108, 115, 101]⟩).asks hM.pw hB.out fun w' hp' hk' => ?_
              replace b1 := (hk'.cell (.inr hpb)).trans b1
              replace b2 := (hk'.cell (.inr hdb)).trans b2
              replace hM := hM.step hk' hp'
              clear hk' hp'
              try dsimp only [eN, eT, eB, eS, eU, eI, eNB]
              go_wp2_with fail
              obtain ⟨t, hnx⟩ := next_ok (ns_bind hN.out hE.out)
              replace hE := Eqn.mk (eq_bind hE.out hnx)
              have hlf := Sec.mk (leaf_ok (kind := 8) (num := 0) (name := ⟨#[]⟩) (ns_last hN.out hE.out))
              replace hnx := Sec.mk hnx
              replace hE := Eqn.mk (hE.out.trans hlf.out)
              go_region_held3 (fun w' => w'.cell? ⟨w.heap.size, 0, none⟩ = some (pp x.g))
                (first | exact (hk3.cell (.inr hpb)).trans ((hk2.cell (.inr hpb)).trans b1) | exact (hk2.cell (.inr hpb)).trans b1 | go_keep)
                (first | ((go_at_call 66; refine (next_any x).useOk hM.pw.drew hnx.out fun w2 hp2 hk2 => ?_; dsimp only [eT])) | ((go_at_call 67; refine (leaf_any x 8 0 ⟨#[]⟩ t).useOk hp2 hlf.out fun w3 hp3 hk3 => ?_; dsimp only [eN])))
              replace hM := (hM.drew.step hk2 hp2).step hk3 hp3
              clear hk2 hk3 hp2 hp3
              go_wp2_with fail
              rw [← e0.out]
              exact hM.toOk hE.out
            | false =>
              replace hE := Eqn.mk (hE.out.trans (if_neg (nott hb)))
              have hB := Sec.mk hb
              clear hb
              go_wp2_with fail
              refine (is_any' x ⟨#[102, 97, 108, 115, 101]⟩).asks hM.pw hB.out fun w' hp' hk' => ?_
              replace b1 := (hk'.cell (.inr hpb)).trans b1
              replace b2 := (hk'.cell (.inr hdb)).trans b2
              replace hM := hM.step hk' hp'
              clear hk' hp'
              try dsimp only [eN, eT, eB, eS, eU, eI, eNB]
              go_wp2_with fail
              have hop := atom1_any x d w.heap.size (w.heap.size + 1) LB _ E hd cE.out hpb hdb b1 b2
              have hfn : ∃ fn c, Try.prog.funcs[(95 : Nat)]? = some fn ∧ fn.body = some c ∧ (fn.name == "runtime.NumGoroutine") = false := (by exact ⟨Try.f95, _, Try.func95, rfl, by kernel_rfl⟩)
              have hch := brackets_any x 9 10 95 _ E hfn _ _ _ hM.pw hop (ns_last hN.out hE.out)
              refine calls_useM hch (fun k st' w' he hp' hk' => ?_) (fun fl w' he hk' => ?_)
              rotate_left
              · exact ⟨rfl, by rw [← e0.out]; exact hM.toBad (hE.out.trans he) hk'⟩
              replace hE := Eqn.mk (hE.out.trans he)
              clear he hop hch hfn
              replace b1 := (hk'.cell (.inr hpb)).trans b1
              replace b2 := (hk'.cell (.inr hdb)).trans b2
              replace hM := hM.step hk' hp'
              clear hk' hp'
              try dsimp only [eN, eT, eB, eS, eU, eI, eNB]
              go_wp2_with fail
              rw [← e0.out]
              exact hM.toOk hE.out
  | false =>
    replace hE := Eqn.mk (hE.out.trans (if_neg (nott hb)))
    have hB := Sec.mk hb
    clear hb
    go_wp2_with fail
    refine (atomBegins_any x).asks hM.pw hB.out fun w' hp' hk' => ?_
    replace b1 := (hk'.cell (.inr hpb)).trans b1
    replace b2 := (hk'.cell (.inr hdb)).trans b2
    replace hM := hM.step hk' hp'
    clear hk' hp'
    try dsimp only [eN, eT, eB, eS, eU, eI, eNB]
    go_wp2_with fail
    refine (fail_any x 1).fails hM.pw fun fl w1 he hk' => ?_
    exact ⟨rfl, by rw [← e0.out]; exact hM.toBad (hE.out.trans (fail_alike he)) hk'⟩

end Go.Proofs.Ytkiijfgoaeiphaa

/- closed and its closure. -/
set_option linter.unusedVariables false
set_option linter.unusedSimpArgs false
namespace Go.Proofs.Ytkiijfgoaeiphaa
open Go.RowKit
attribute [local go_sem ↓] Go.wp_at_zero Go.wp_at_succ

theorem closed1_any (x : Cx) (d pb db : Nat) (L0 : Nat → Prop) (w0 : World) (E : M Nat) (hd : d ≤ 64) (cE : Meets x 80 #[pp x.g, .int .i64 ((d : Int) + 1)] E eN) (hpb : L0 pb) (hdb : L0 db) (c1 : w0.cell? ⟨pb, 0, none⟩ = some (pp x.g)) (c2 : w0.cell? ⟨db, 0, none⟩ = some (.int .i64 d)) : OpMeets x L0 w0 94 #[.pointer (some ⟨pb, 0, none⟩), .pointer (some ⟨db, 0, none⟩)] E := by
  have cE := Sec.mk cE
  intro L w st hL hw hp hns
  have b1 : w.cell? ⟨pb, 0, none⟩ = some (pp x.g) := (World.cell?_of_block (hw pb hpb)).trans c1
  have b2 : w.cell? ⟨db, 0, none⟩ = some (.int .i64 d) := (World.cell?_of_block (hw db hdb)).trans c2
  clear c1 c2 hw
  have hE : Eqn ((E) st) ((E) st) := ⟨rfl⟩
  have hN := Sec.mk hns
  have hM := Mid.start hp
  clear hns
  generalize hPost : PostM x L eN w ((E) st) = Post
  have e0 := Sec.mk hPost
  clear hPost
  have flo := run_lo
  have fhi := run_hi
  go_enter Try.func94, Try.ntmps94
  go_wp2_with fail
  refine (cE.out).use hM.pw (ns_last hN.out hE.out) (fun k st' w' he hp' hk' => ?_) (fun fl w' he hk' => ?_)
  rotate_left
  · exact ⟨rfl, by rw [← e0.out]; exact hM.toBad (hE.out.trans he) hk'⟩
  replace hE := Eqn.mk (hE.out.trans he)
  clear he
  replace hM := hM.step hk' hp'
  clear hk' hp'
  try dsimp only [eN, eT, eB, eS, eU, eI, eNB]
  go_wp2_with fail
  rw [← e0.out]
  exact hM.toOk hE.out

set_option maxRecDepth 100000 in
set_option maxHeartbeats 2000000 in
theorem closed_any (x : Cx) (d : Nat) (E : M Nat) (hd : d ≤ 64) (cE : Meets x 80 #[pp x.g, .int .i64 ((d : Int) + 1)] E eN) : Meets x 86 #[pp x.g, .int .i64 d] (closed x.toTxt E) eN := by
  have cE := Sec.mk cE
  have hmf : ∀ (fn : Fn) (first cap : Array Value) (w : World), (Instr.makeFunc fn first cap).run Try.prog w = .ok (.func fn first cap) w := fun _ _ _ _ => rfl
  intro L w st hp hns
  have hE : Eqn ((closed x.toTxt E) st) ((closed x.toTxt E) st) := ⟨rfl⟩
  have hN := Sec.mk hns
  have hM := Mid.start hp
  clear hns
  generalize hPost : PostM x L eN w ((closed x.toTxt E) st) = Post
  have e0 := Sec.mk hPost
  clear hPost
  have flo := run_lo
  have fhi := run_hi
  go_enter Try.func86, Try.ntmps86
  go_wp2_with fail
  have b1 : ((w.alloc (.cells #[pp x.g] 69)).alloc (.cells #[.int .i64 (d : Int)] 3)).cell? ⟨w.heap.size, 0, none⟩ = some (pp x.g) := by
    rw [World.cell?_alloc_lt _ _ _ (by simp), World.cell?_alloc_new]; rfl
  have b2 : ((w.alloc (.cells #[pp x.g] 69)).alloc (.cells #[.int .i64 (d : Int)] 3)).cell? ⟨w.heap.size + 1, 0, none⟩ = some (.int .i64 (d : Int)) := by
    rw [show w.heap.size + 1 = (w.alloc (.cells #[pp x.g] 69)).heap.size by simp]
    rw [World.cell?_alloc_new]; rfl
  obtain ⟨LB, hMB, hpb, hdb⟩ : ∃ LB : Nat → Prop, Mid x L w LB ((w.alloc (.cells #[pp x.g] 69)).alloc (.cells #[.int .i64 (d : Int)] 3)) st ∧ LB w.heap.size ∧ LB (w.heap.size + 1) := ⟨_, (hM.own (.cells #[pp x.g] 69)).own (.cells #[.int .i64 (d : Int)] 3), .inl (.inr rfl), .inr (by simp)⟩
  replace hM := hMB
  clear hMB
  cases hb : closedBegins x.toTxt st with
  | true =>
    replace hE := Eqn.mk (hE.out.trans (if_pos hb))
    have hB := Sec.mk hb
    clear hb
    go_wp2_with fail
    refine (closedBegins_any x).asks hM.pw hB.out fun w' hp' hk' => ?_
    replace b1 := (hk'.cell (.inr hpb)).trans b1
    replace b2 := (hk'.cell (.inr hdb)).trans b2
    replace hM := hM.step hk' hp'
    clear hk' hp'
    try dsimp only [eN, eT, eB, eS, eU, eI, eNB]
    go_wp2_with fail
    obtain ⟨nv, hnv⟩ : ∃ nv, number x.toTxt st = nv := ⟨_, rfl⟩
    obtain ⟨v, ok⟩ := nv
    cases ok with
    | true =>
      replace hE := Eqn.mk (hE.out.trans (if_pos (by rw [hnv])))
      rw [hnv] at hE
      replace hnv := Sec.mk hnv
      go_wp2_with fail
      refine (number_any x).asks hM.pw hnv.out fun w' hp' hk' => ?_
      replace b1 := (hk'.cell (.inr hpb)).trans b1
      replace b2 := (hk'.cell (.inr hdb)).trans b2
      replace hM := hM.step hk' hp'
      clear hk' hp'
      try dsimp only [eN, eT, eB, eS, eU, eI, eNB]
      go_wp2_with fail
      obtain ⟨t, hnx⟩ := next_ok (ns_bind hN.out hE.out)
      replace hE := Eqn.mk (eq_bind hE.out hnx)
      have hlf := Sec.mk (leaf_ok (kind := 19) (num := v) (name := ⟨#[]⟩) (ns_last hN.out hE.out))
      replace hnx := Sec.mk hnx
      replace hE := Eqn.mk (hE.out.trans hlf.out)
      go_region_held3 (fun w' => w'.cell? ⟨w.heap.size, 0, none⟩ = some (pp x.g))
        (first | exact (hk3.cell (.inr hpb)).trans ((hk2.cell (.inr hpb)).trans b1) | exact (hk2.cell (.inr hpb)).trans b1 | go_keep)
        (first | ((go_at_call 66; refine (next_any x).useOk hM.pw.drew hnx.out fun w2 hp2 hk2 => ?_; dsimp only [eT])) | ((go_at_call 67; refine (leaf_any x 19 v ⟨#[]⟩ t).useOk hp2 hlf.out fun w3 hp3 hk3 => ?_; dsimp only [eN])))
      replace hM := (hM.drew.step hk2 hp2).step hk3 hp3
      clear hk2 hk3 hp2 hp3
      go_wp2_with fail
      rw [← e0.out]
      exact hM.toOk hE.out
    | false =>
      replace hE := Eqn.mk (hE.out.trans (if_neg (by rw [hnv]; exact Bool.false_ne_true)))
      replace hnv := Sec.mk hnv
      go_wp2_with fail
      refine (number_any x).asks hM.pw hnv.out fun w' hp' hk' => ?_
      replace b1 := (hk'.cell (.inr hpb)).trans b1
      replace b2 := (hk'.cell (.inr hdb)).trans b2
      replace hM := hM.step hk' hp'
      clear hk' hp'
      try dsimp only [eN, eT, eB, eS, eU, eI, eNB]
      cases hb : isK x.toTxt 1 st with
      | true =>
        replace hE := Eqn.mk (hE.out.trans (if_pos hb))
        have hB := Sec.mk hb
        clear hb
        go_wp2_with fail
        refine (kind_any x 1).asks hM.pw hB.out fun w' hp' hk' => ?_
        replace b1 := (hk'.cell (.inr hpb)).trans b1
        replace b2 := (hk'.cell (.inr hdb)).trans b2
        replace hM := hM.step hk' hp'
        clear hk' hp'
        try dsimp only [eN, eT, eB, eS, eU, eI, eNB]
        go_wp2_with fail
        refine (bind_any x).use hM.pw (ns_last hN.out hE.out) (fun k st' w' he hp' hk' => ?_) (fun fl w' he hk' => ?_)
        rotate_left
        · exact ⟨rfl, by rw [← e0.out]; exact hM.toBad (hE.out.trans he) hk'⟩
        replace hE := Eqn.mk (hE.out.trans he)
        clear he
        replace b1 := (hk'.cell (.inr hpb)).trans b1
        replace b2 := (hk'.cell (.inr hdb)).trans b2
        replace hM := hM.step hk' hp'
        clear hk' hp'
        try dsimp only [eN, eT, eB, eS, eU, eI, eNB]
        go_wp2_with fail
        rw [← e0.out]
        exact hM.toOk hE.out
      | false =>
        replace hE := Eqn.mk (hE.out.trans (if_neg (nott hb)))
        have hB := Sec.mk hb
        clear hb
        go_wp2_with fail
        refine (kind_any x 1).asks hM.pw hB.out fun w' hp' hk' => ?_
        replace b1 := (hk'.cell (.inr hpb)).trans b1
        replace b2 := (hk'.cell (.inr hdb)).trans b2
        replace hM := hM.step hk' hp'
        clear hk' hp'
        try dsimp only [eN, eT, eB, eS, eU, eI, eNB]
        cases hb : isK x.toTxt 2 st with
        | true =>
          replace hE := Eqn.mk (hE.out.trans (if_pos hb))
          have hB := Sec.mk hb
          clear hb
          go_wp2_with fail
          refine (kind_any x 2).asks hM.pw hB.out fun w' hp' hk' => ?_
          replace b1 := (hk'.cell (.inr hpb)).trans b1
          replace b2 := (hk'.cell (.inr hdb)).trans b2
          replace hM := hM.step hk' hp'
          clear hk' hp'
          try dsimp only [eN, eT, eB, eS, eU, eI, eNB]
          go_wp2_with fail
          refine (next_any x).use hM.pw (ns_bind hN.out hE.out) (fun t st2 w2 he hp' hk' => ?_) (fun fl w2 he hk' => ?_)
          rotate_left
          · exact ⟨rfl, by rw [← e0.out]; exact hM.toBad (bad_bind hE.out he) hk'⟩
          replace hE := Eqn.mk (eq_bind hE.out he)
          clear he
          replace b1 := (hk'.cell (.inr hpb)).trans b1
          replace b2 := (hk'.cell (.inr hdb)).trans b2
          replace hM := hM.step hk' hp'
          clear hk' hp'
          try dsimp only [eN, eT, eB, eS, eU, eI, eNB]
          have hlf := Sec.mk (leaf_ok (kind := 23) (num := 0) (name := wordOf x.s t) (ns_last hN.out hE.out))
          replace hE := Eqn.mk (hE.out.trans hlf.out)
          have hS : Sec (HeldT x w.heap.size w2.heap.size t (w2.alloc (.cells #[.int .i64 t.kind, .int .i64 t.lo, .int .i64 t.hi] 31))) := ⟨(World.cell?_alloc_lt _ _ _ (hM.pw.bound _ hpb)).trans b1, by simp, by simp, by simp⟩
          obtain ⟨LC, hMC, hpb, htb⟩ : ∃ LC : Nat → Prop, Mid x L w LC (w2.alloc (.cells #[.int .i64 t.kind, .int .i64 t.lo, .int .i64 t.hi] 31)) st2 ∧ LC w.heap.size ∧ LC w2.heap.size := ⟨_, hM.own (.cells #[.int .i64 t.kind, .int .i64 t.lo, .int .i64 t.hi] 31), .inl hpb, .inr rfl⟩
          replace hM := hMC
          clear hMC
          obtain ⟨tk, tl, th⟩ := t
          go_wp2_with fail
          go_region_held3 (fun w' => w'.cell? ⟨w.heap.size, 0, none⟩ = some (pp x.g) ∧ w'.cell? ⟨w2.heap.size, 0, none⟩ = some (.int .i64 tk) ∧ w'.cell? ⟨w2.heap.size, 1, none⟩ = some (.int .i64 tl) ∧ w'.cell? ⟨w2.heap.size, 2, none⟩ = some (.int .i64 th))
            (first | exact HeldT.keep (t := ⟨tk, tl, th⟩) hk4 hpb htb (HeldT.keep hk3 hpb htb hS.out) | exact HeldT.keep (t := ⟨tk, tl, th⟩) hk3 hpb htb hS.out | exact hS.out | go_keep)
            (first | ((go_at_call 62; refine (pword_any x ⟨tk, tl, th⟩).asks hM.pw.drew rfl fun w3 hp3 hk3 => ?_; dsimp only [eS])) | ((go_at_call 67; refine (leaf_any x 23 0 (wordOf x.s ⟨tk, tl, th⟩) ⟨tk, tl, th⟩).useOk hp3 hlf.out fun w4 hp4 hk4 => ?_; dsimp only [eN])))
          replace hM := (hM.drew.step hk3 hp3).step hk4 hp4
          clear hk3 hk4 hp3 hp4
          go_wp2_with fail
          rw [← e0.out]
          exact hM.toOk hE.out
        | false =>
          replace hE := Eqn.mk (hE.out.trans (if_neg (nott hb)))
          have hB := Sec.mk hb
          clear hb
          go_wp2_with fail
          refine (kind_any x 2).asks hM.pw hB.out fun w' hp' hk' => ?_
          replace b1 := (hk'.cell (.inr hpb)).trans b1
          replace b2 := (hk'.cell (.inr hdb)).trans b2
          replace hM := hM.step hk' hp'
          clear hk' hp'
          try dsimp only [eN, eT, eB, eS, eU, eI, eNB]
          cases hb : isW x.toTxt ⟨#[95]⟩ st with
          | true =>
            replace hE := Eqn.mk (hE.out.trans (if_pos hb))
            have hB := Sec.mk hb
            clear hb
            go_wp2_with fail
            refine (is_any' x ⟨#[95]⟩).asks hM.pw hB.out fun w' hp' hk' => ?_
            replace b1 := (hk'.cell (.inr hpb)).trans b1
            replace b2 := (hk'.cell (.inr hdb)).trans b2
            replace hM := hM.step hk' hp'
            clear hk' hp'
            try dsimp only [eN, eT, eB, eS, eU, eI, eNB]
            go_wp2_with fail
            obtain ⟨t, hnx⟩ := next_ok (ns_bind hN.out hE.out)
            replace hE := Eqn.mk (eq_bind hE.out hnx)
            have hlf := Sec.mk (leaf_ok (kind := 18) (num := 0) (name := ⟨#[]⟩) (ns_last hN.out hE.out))
            replace hnx := Sec.mk hnx
            replace hE := Eqn.mk (hE.out.trans hlf.out)
            go_region_held3 (fun w' => w'.cell? ⟨w.heap.size, 0, none⟩ = some (pp x.g))
              (first | exact (hk3.cell (.inr hpb)).trans ((hk2.cell (.inr hpb)).trans b1) | exact (hk2.cell (.inr hpb)).trans b1 | go_keep)
              (first | ((go_at_call 66; refine (next_any x).useOk hM.pw.drew hnx.out fun w2 hp2 hk2 => ?_; dsimp only [eT])) | ((go_at_call 67; refine (leaf_any x 18 0 ⟨#[]⟩ t).useOk hp2 hlf.out fun w3 hp3 hk3 => ?_; dsimp only [eN])))
            replace hM := (hM.drew.step hk2 hp2).step hk3 hp3
            clear hk2 hk3 hp2 hp3
            go_wp2_with fail
            rw [← e0.out]
            exact hM.toOk hE.out
          | false =>
            replace hE := Eqn.mk (hE.out.trans (if_neg (nott hb)))
            have hB := Sec.mk hb
            clear hb
            go_wp2_with fail
            refine (is_any' x ⟨#[95]⟩).asks hM.pw hB.out fun w' hp' hk' => ?_
            replace b1 := (hk'.cell (.inr hpb)).trans b1
            replace b2 := (hk'.cell (.inr hdb)).trans b2
            replace hM := hM.step hk' hp'
            clear hk' hp'
            try dsimp only [eN, eT, eB, eS, eU, eI, eNB]
            cases hb : isW x.toTxt ⟨#[116, 114, 117, 101]⟩ st with
            | true =>
              replace hE := Eqn.mk (hE.out.trans (if_pos hb))
              have hB := Sec.mk hb
              clear hb
              go_wp2_with fail
              refine (is_any' x ⟨#[116, 114, 117, 101]⟩).asks hM.pw hB.out fun w' hp' hk' => ?_
              replace b1 := (hk'.cell (.inr hpb)).trans b1
              replace b2 := (hk'.cell (.inr hdb)).trans b2
              replace hM := hM.step hk' hp'
              clear hk' hp'
              try dsimp only [eN, eT, eB, eS, eU, eI, eNB]
              go_wp2_with fail
              obtain ⟨t, hnx⟩ := next_ok (ns_bind hN.out hE.out)
              replace hE := Eqn.mk (eq_bind hE.out hnx)
              have hlf := Sec.mk (leaf_ok (kind := 20) (num := 1) (name := ⟨#[]⟩) (ns_last hN.out hE.out))
              replace hnx := Sec.mk hnx
              replace hE := Eqn.mk (hE.out.trans hlf.out)
              go_region_held3 (fun w' => w'.cell? ⟨w.heap.size, 0, none⟩ = some (pp x.g))
                (first | exact (hk3.cell (.inr hpb)).trans ((hk2.cell (.inr hpb)).trans b1) | exact (hk2.cell (.inr hpb)).trans b1 | go_keep)
                (first | ((go_at_call 66; refine (next_any x).useOk hM.pw.drew hnx.out fun w2 hp2 hk2 => ?_; dsimp only [eT])) | ((go_at_call 67; refine (leaf_any x 20 1 ⟨#[]⟩ t).useOk hp2 hlf.out fun w3 hp3 hk3 => ?_; dsimp only [eN])))
              replace hM := (hM.drew.step hk2 hp2).step hk3 hp3
              clear hk2 hk3 hp2 hp3
              go_wp2_with fail
              rw [← e0.out]
              exact hM.toOk hE.out
            | false =>
              replace hE := Eqn.mk (hE.out.trans (if_neg (nott hb)))
              have hB := Sec.mk hb
              clear hb
              go_wp2_with fail
              refine (is_any' x ⟨#[116, 114, 117, 101]⟩).asks hM.pw hB.out fun w' hp' hk' => ?_
              replace b1 := (hk'.cell (.inr hpb)).trans b1
              replace b2 := (hk'.cell (.inr hdb)).trans b2
              replace hM := hM.step hk' hp'
              clear hk' hp'
              try dsimp only [eN, eT, eB, eS, eU, eI, eNB]
              cases hb : isW x.toTxt ⟨#[102, 97, 108, 115, 101]⟩ st with
              | true =>
                replace hE := Eqn.mk (hE.out.trans (if_pos hb))
                have hB := Sec.mk hb
                clear hb
                go_wp2_with fail
                refine (is_any' x ⟨#[102, 97, 108, 115, 101]⟩).asks hM.pw hB.out fun w' hp' hk' => ?_
                replace b1 := (hk'.cell (.inr hpb)).trans b1
                replace b2 := (hk'.cell (.inr hdb)).trans b2
                replace hM := hM.step hk' hp'
                clear hk' hp'
                try dsimp only [eN, eT, eB, eS, eU, eI, eNB]
                go_wp2_with fail
                obtain ⟨t, hnx⟩ := next_ok (ns_bind hN.out hE.out)
                replace hE := Eqn.mk (eq_bind hE.out hnx)
                have hlf := Sec.mk (leaf_ok (kind := 20) (num := 0) (name := ⟨#[]⟩) (ns_last hN.out hE.out))
                replace hnx := Sec.mk hnx
                replace hE := Eqn.mk (hE.out.trans hlf.out)
                go_region_held3 (fun w' => w'.cell? ⟨w.heap.size, 0, none⟩ = some (pp x.g))
                  (first | exact (hk3.cell (.inr hpb)).trans ((hk2.cell (.inr hpb)).trans b1) | exact (hk2.cell (.inr hpb)).trans b1 | go_keep)
                  (first | ((go_at_call 66; refine (next_any x).useOk hM.pw.drew hnx.out fun w2 hp2 hk2 => ?_; dsimp only [eT])) | ((go_at_call 67; refine (leaf_any x 20 0 ⟨#[]⟩ t).useOk hp2 hlf.out fun w3 hp3 hk3 => ?_; dsimp only [eN])))
                replace hM := (hM.drew.step hk2 hp2).step hk3 hp3
                clear hk2 hk3 hp2 hp3
                go_wp2_with fail
                rw [← e0.out]
                exact hM.toOk hE.out
              | false =>
                replace hE := Eqn.mk (hE.out.trans (if_neg (nott hb)))
                have hB := Sec.mk hb
                clear hb
                go_wp2_with fail
                refine (is_any' x ⟨#[102, 97, 108, 115, 101]⟩).asks hM.pw hB.out fun w' hp' hk' => ?_
                replace b1 := (hk'.cell (.inr hpb)).trans b1
                replace b2 := (hk'.cell (.inr hdb)).trans b2
                replace hM := hM.step hk' hp'
                clear hk' hp'
                try dsimp only [eN, eT, eB, eS, eU, eI, eNB]
                go_wp2_with fail
                have hop := closed1_any x d w.heap.size (w.heap.size + 1) LB _ E hd cE.out hpb hdb b1 b2
                have hfn : ∃ fn c, Try.prog.funcs[(94 : Nat)]? = some fn ∧ fn.body = some c ∧ (fn.name == "runtime.NumGoroutine") = false := (by exact ⟨Try.f94, _, Try.func94, rfl, by kernel_rfl⟩)
                have hch := brackets_any x 21 22 94 _ E hfn _ _ _ hM.pw hop (ns_last hN.out hE.out)
                refine calls_useM hch (fun k st' w' he hp' hk' => ?_) (fun fl w' he hk' => ?_)
                rotate_left
                · exact ⟨rfl, by rw [← e0.out]; exact hM.toBad (hE.out.trans he) hk'⟩
                replace hE := Eqn.mk (hE.out.trans he)
                clear he hop hch hfn
                replace b1 := (hk'.cell (.inr hpb)).trans b1
                replace b2 := (hk'.cell (.inr hdb)).trans b2
                replace hM := hM.step hk' hp'
                clear hk' hp'
                try dsimp only [eN, eT, eB, eS, eU, eI, eNB]
                go_wp2_with fail
                rw [← e0.out]
                exact hM.toOk hE.out
  | false =>
    replace hE := Eqn.mk (hE.out.trans (if_neg (nott hb)))
    have hB := Sec.mk hb
    clear hb
    go_wp2_with fail
    refine (closedBegins_any x).asks hM.pw hB.out fun w' hp' hk' => ?_
    replace b1 := (hk'.cell (.inr hpb)).trans b1
    replace b2 := (hk'.cell (.inr hdb)).trans b2
    replace hM := hM.step hk' hp'
    clear hk' hp'
    try dsimp only [eN, eT, eB, eS, eU, eI, eNB]
    go_wp2_with fail
    refine (fail_any x 1).fails hM.pw fun fl w1 he hk' => ?_
    exact ⟨rfl, by rw [← e0.out]; exact hM.toBad (hE.out.trans (fail_alike he)) hk'⟩

end Go.Proofs.Ytkiijfgoaeiphaa

/- A node in a box of a function's own. -/
set_option linter.unusedVariables false
namespace Go.Proofs.Ytkiijfgoaeiphaa
open Go.RowKit

/-- The call began in w with L; now the world is W; the node lies in block nb of its own. -/
structure NBox (x : Cx) (L : Nat → Prop) (w : World) (LB : Nat → Prop) (W : World) (st : PSt) (nb : Nat) (k lo hi num : Int) (nm : ByteArray) (kv : Value) : Prop where
  mid : Mid x L w LB W st
  own : LB nb
  new : w.heap.size ≤ nb
  lb : ∀ i, L i → i < w.heap.size
  glt : x.g < w.heap.size
  c0 : W.cell? ⟨nb, 0, none⟩ = some (.int .i64 k)
  c1 : W.cell? ⟨nb, 1, none⟩ = some (.int .i64 lo)
  c2 : W.cell? ⟨nb, 2, none⟩ = some (.int .i64 hi)
  c3 : W.cell? ⟨nb, 3, none⟩ = some (.int .i64 num)
  c4 : W.cell? ⟨nb, 4, none⟩ = some (.string nm)
  c5 : W.cell? ⟨nb, 5, none⟩ = some kv
  fz : ∀ o, W.frozen? ⟨nb, o, none⟩ = false
theorem Mid.set {x : Cx} {L LB : Nat → Prop} {w W : World} {st : PSt} (h : Mid x L w LB W st) (hlb : ∀ i, L i → i < w.heap.size) (hg : x.g < w.heap.size) {a : Addr} (ho : LB a.block) (hn : w.heap.size ≤ a.block) (v : Value) : Mid x L w LB (W.setCell a v) st :=
  ⟨h.pw.set ho (by omega) v, h.keeps.set (by omega) (fun hc => by have := hlb _ hc; omega) v, h.sub⟩
theorem cell_on {W : World} {p : Addr} {u v : Value} (h : W.cell? p = some u) : (W.setCell p v).cell? p = some v := World.cell?_setCell_same _ _ _ h
theorem cell_off {W : World} {nb i j : Nat} {u v : Value} (h : W.cell? ⟨nb, i, none⟩ = some u) (hne : i ≠ j) : (W.setCell ⟨nb, j, none⟩ v).cell? ⟨nb, i, none⟩ = some u :=
  (World.cell?_setCell_other _ _ _ _ (by intro e; simp only [Addr.mk.injEq] at e; omega)).trans h
section
variable {x : Cx} {L LB : Nat → Prop} {w W W' : World} {st st' : PSt} {nb : Nat} {k lo hi num : Int} {nm : ByteArray} {kv : Value}
theorem NBox.step (h : NBox x L w LB W st nb k lo hi num nm kv) (hk : Keeps x.g LB W W') (hp : PW x LB W' st') : NBox x L w LB W' st' nb k lo hi num nm kv :=
  have c := fun o => hk.cell (a := ⟨nb, o, none⟩) (.inr h.own)
  ⟨h.mid.step hk hp, h.own, h.new, h.lb, h.glt, (c 0).trans h.c0, (c 1).trans h.c1, (c 2).trans h.c2, (c 3).trans h.c3, (c 4).trans h.c4, (c 5).trans h.c5, fun o => (hk.frozen (.inr h.own)).trans (h.fz o)⟩
theorem NBox.alloc (h : NBox x L w LB W st nb k lo hi num nm kv) (o : Obj) : NBox x L w LB (W.alloc o) st nb k lo hi num nm kv :=
  h.step (h.mid.pw.keepAlloc o) (h.mid.pw.alloc o)
theorem NBox.setHi (h : NBox x L w LB W st nb k lo hi num nm kv) (e : Int) : NBox x L w LB (W.setCell ⟨nb, 2, none⟩ (.int .i64 e)) st nb k lo e num nm kv :=
  ⟨h.mid.set h.lb h.glt h.own h.new _, h.own, h.new, h.lb, h.glt, cell_off h.c0 (by decide), cell_off h.c1 (by decide), World.cell?_setCell_same _ _ _ h.c2, cell_off h.c3 (by decide), cell_off h.c4 (by decide), cell_off h.c5 (by decide), fun o => by simp [h.fz]⟩
theorem NBox.setKids (h : NBox x L w LB W st nb k lo hi num nm kv) (v : Value) : NBox x L w LB (W.setCell ⟨nb, 5, none⟩ v) st nb k lo hi num nm v :=
  ⟨h.mid.set h.lb h.glt h.own h.new _, h.own, h.new, h.lb, h.glt, cell_off h.c0 (by decide), cell_off h.c1 (by decide), cell_off h.c2 (by decide), cell_off h.c3 (by decide), cell_off h.c4 (by decide), World.cell?_setCell_same _ _ _ h.c5, fun o => by simp [h.fz]⟩
/-- Made behind the last call. -/
theorem NBox.made (h : Mid x L w LB W st) (hlb : ∀ i, L i → i < w.heap.size) (hg : x.g < w.heap.size) (k lo hi num : Int) (nm : ByteArray) (kv : Value) :
    NBox x L w (fun i => LB i ∨ i = W.heap.size) (W.alloc (.cells #[.int .i64 k, .int .i64 lo, .int .i64 hi, .int .i64 num, .string nm, kv] 53)) st W.heap.size k lo hi num nm kv :=
  ⟨h.own _, .inr rfl, h.keeps.size, hlb, hg, by simp, by simp, by simp, by simp, by simp, by simp, fun o => by unfold World.frozen?; dsimp only; rw [heap_alloc_new]; simp⟩
/-- Made ahead of the last call, filled behind it. -/
theorem NBox.filled (h : Mid x L w LB W st) (hlb : ∀ i, L i → i < w.heap.size) (hg : x.g < w.heap.size) (ho : LB nb) (hn : w.heap.size ≤ nb) (k lo hi num : Int) (nm : ByteArray) (kv : Value)
    (hc : ∃ v0 v1 v2 v3 v4 v5, W.cell? ⟨nb, 0, none⟩ = some v0 ∧ W.cell? ⟨nb, 1, none⟩ = some v1 ∧ W.cell? ⟨nb, 2, none⟩ = some v2 ∧ W.cell? ⟨nb, 3, none⟩ = some v3 ∧ W.cell? ⟨nb, 4, none⟩ = some v4 ∧ W.cell? ⟨nb, 5, none⟩ = some v5 ∧ ∀ o, W.frozen? ⟨nb, o, none⟩ = false) :
    NBox x L w LB ((((((W.setCell ⟨nb, 0, none⟩ (.int .i64 k)).setCell ⟨nb, 1, none⟩ (.int .i64 lo)).setCell ⟨nb, 2, none⟩ (.int .i64 hi)).setCell ⟨nb, 3, none⟩ (.int .i64 num)).setCell ⟨nb, 4, none⟩ (.string nm)).setCell ⟨nb, 5, none⟩ kv) st nb k lo hi num nm kv := by
  obtain ⟨v0, v1, v2, v3, v4, v5, c0, c1, c2, c3, c4, c5, fz⟩ := hc
  exact ⟨(((((h.set hlb hg ho hn _).set hlb hg ho hn _).set hlb hg ho hn _).set hlb hg ho hn _).set hlb hg ho hn _).set hlb hg ho hn _, ho, hn, hlb, hg, (cell_off (cell_off (cell_off (cell_off (cell_off (cell_on c0) (by decide)) (by decide)) (by decide)) (by decide)) (by decide)), (cell_off (cell_off (cell_off (cell_off (cell_on (cell_off c1 (by decide))) (by decide)) (by decide)) (by decide)) (by decide)), (cell_off (cell_off (cell_off (cell_on (cell_off (cell_off c2 (by decide)) (by decide))) (by decide)) (by decide)) (by decide)), (cell_off (cell_off (cell_on (cell_off (cell_off (cell_off c3 (by decide)) (by decide)) (by decide))) (by decide)) (by decide)), (cell_off (cell_on (cell_off (cell_off (cell_off (cell_off c4 (by decide)) (by decide)) (by decide)) (by decide))) (by decide)), (cell_on (cell_off (cell_off (cell_off (cell_off (cell_off c5 (by decide)) (by decide)) (by decide)) (by decide)) (by decide))), fun o => by simp [fz]⟩
end
theorem HeldN.far {tb nb : Nat} {t : Tok} {w : World} (hne : tb ≠ nb) (o : Nat) (v : Value) (h : HeldN tb t w) : HeldN tb t (w.setCell ⟨nb, o, none⟩ v) :=
  ⟨(World.cell?_setCell_far _ _ _ _ (fun e => hne e.symm)).trans h.1, (World.cell?_setCell_far _ _ _ _ (fun e => hne e.symm)).trans h.2.1, (World.cell?_setCell_far _ _ _ _ (fun e => hne e.symm)).trans h.2.2⟩
theorem HeldN.fars {tb nb : Nat} {t : Tok} {w : World} (hne : tb ≠ nb) (h : HeldN tb t w) (v0 v1 v2 v3 v4 v5 : Value) :
    HeldN tb t ((((((w.setCell ⟨nb, 0, none⟩ v0).setCell ⟨nb, 1, none⟩ v1).setCell ⟨nb, 2, none⟩ v2).setCell ⟨nb, 3, none⟩ v3).setCell ⟨nb, 4, none⟩ v4).setCell ⟨nb, 5, none⟩ v5) :=
  ((((((h.far hne 0 v0).far hne 1 v1).far hne 2 v2).far hne 3 v3).far hne 4 v4).far hne 5 v5)
/-- The parts of a node that lies in a box. -/
theorem kids_box (w : World) (L : Nat → Prop) (hL : ∀ i, L i → i < w.heap.size) (l : List Int) (hl : l.length ≤ 1000) (nb o : Nat) (v : Value) (hn : L nb) (n : Nat) (hs : n = w.heap.size) : KidsIn ((w.alloc (.cells (ints l).toArray 3)).setCell ⟨nb, o, none⟩ v) L (.slice (some ⟨n, 0, none⟩) l.length l.length) l :=
  hs ▸ (kids_lit w L hL l hl).keep fun b cur fr hb hh => ⟨hb, Below.heap_setCell _ _ _ _ (fun e => hb (e ▸ hn))⟩
end Go.Proofs.Ytkiijfgoaeiphaa

/- pattern. -/
set_option linter.unusedVariables false
set_option linter.unusedSimpArgs false
namespace Go.Proofs.Ytkiijfgoaeiphaa
open Go.RowKit
attribute [local go_sem ↓] Go.wp_at_zero Go.wp_at_succ

def patternS (x : Txt) (C : M Nat) : M Nat := fun st =>
  if isK x 2 st then M.bind (next x) (fun t => fun st1 => if closedBegins x st1 then M.bind C (fun part => M.bind (toOf part) fun e => add ⟨23, t.lo, e, 0, wordOf x.s t, [(part : Int)]⟩) st1 else add ⟨23, t.lo, t.hi, 0, wordOf x.s t, []⟩ st1) st
  else C st
set_option maxRecDepth 100000 in
set_option maxHeartbeats 4000000 in
theorem pattern_any (x : Cx) (d : Nat) (C : M Nat) (hd : d ≤ 64) (cC : Meets x 86 #[pp x.g, .int .i64 d] C eN) : Meets x 80 #[pp x.g, .int .i64 d] (patternS x.toTxt C) eN := by
  have cC := Sec.mk cC
  intro L w st hp hns
  have hlbw := hp.bound
  have hgw := hp.glt
  have hE : Eqn ((patternS x.toTxt C) st) ((patternS x.toTxt C) st) := ⟨rfl⟩
  have hN := Sec.mk hns
  have hM := Mid.start hp
  clear hns
  generalize hPost : PostM x L eN w ((patternS x.toTxt C) st) = Post
  have e0 := Sec.mk hPost
  clear hPost
  have flo := run_lo
  have fhi := run_hi
  go_enter Try.func80, Try.ntmps80
  go_wp2_with fail
  refine (enter_any x d (by omega)).useOk (a := ()) (st' := st) hM.pw (by simp only [enter, if_neg (show ¬ 64 < d by omega)]; rfl) fun w' hp' hk' => ?_
  replace hM := hM.step hk' hp'
  clear hk' hp'
  try dsimp only [eN, eT, eB, eS, eU, eI, eNB]
  cases hb : isK x.toTxt 2 st with
  | true =>
    replace hE := Eqn.mk (hE.out.trans (if_pos hb))
    have hB := Sec.mk hb
    clear hb
    go_wp2_with fail
    refine (kind_any x 2).asks hM.pw hB.out fun w' hp' hk' => ?_
    replace hM := hM.step hk' hp'
    clear hk' hp'
    try dsimp only [eN, eT, eB, eS, eU, eI, eNB]
    go_wp2_with fail
    refine (next_any x).use hM.pw (ns_bind hN.out hE.out) (fun t st2 w2 he hp' hk' => ?_) (fun fl w2 he hk' => ?_)
    rotate_left
    · exact ⟨rfl, by rw [← e0.out]; exact hM.toBad (bad_bind hE.out he) hk'⟩
    replace hE := Eqn.mk (eq_bind hE.out he)
    clear he
    replace hM := hM.step hk' hp'
    clear hk' hp'
    try dsimp only [eN, eT, eB, eS, eU, eI, eNB]
    obtain ⟨LB, hMB, htb, htw⟩ : ∃ LB : Nat → Prop, Mid x L w LB (w2.alloc (.cells #[.int .i64 t.kind, .int .i64 t.lo, .int .i64 t.hi] 31)) st2 ∧ LB w2.heap.size ∧ w2.heap.size < (w2.alloc (.cells #[.int .i64 t.kind, .int .i64 t.lo, .int .i64 t.hi] 31)).heap.size := ⟨_, hM.own (.cells #[.int .i64 t.kind, .int .i64 t.lo, .int .i64 t.hi] 31), .inr rfl, by simp⟩
    replace hM := hMB
    clear hMB
    obtain ⟨tk, tl, th⟩ := t
    go_wp2_with fail
    have hS : HeldN w2.heap.size ⟨tk, tl, th⟩ (w2.alloc (.cells #[.int .i64 tk, .int .i64 tl, .int .i64 th] 31)) := ⟨by simp, by simp, by simp⟩
    try dsimp only at hM htw
    generalize w2.alloc (.cells #[.int .i64 tk, .int .i64 tl, .int .i64 th] 31) = W1 at hM hS htw ⊢
    generalize w2.heap.size = tb at htb hS htw ⊢
    have hS1 : HeldN tb ⟨tk, tl, th⟩ W1.drew := hS
    have hMB := (hM.own (.cells #[.int .i64 0, .int .i64 0, .int .i64 0, .int .i64 0, .string ⟨#[]⟩, .slice none 0 0] 53)).drew
    have hSB : Sec (HeldN tb ⟨tk, tl, th⟩ (W1.alloc (.cells #[.int .i64 0, .int .i64 0, .int .i64 0, .int .i64 0, .string ⟨#[]⟩, .slice none 0 0] 53)).drew) := ⟨HeldN.alloc (o := (.cells #[.int .i64 0, .int .i64 0, .int .i64 0, .int .i64 0, .string ⟨#[]⟩, .slice none 0 0] 53)) (hM.pw.bound _ htb) hS⟩
    have hS1' := Sec.mk hS1
    have hSB0 := hSB.out
    clear hS
    unfold HeldN at hS1 hSB0
    dsimp only at hS1 hSB0
    go_region_held3 (fun w' => w'.cell? ⟨tb, 0, none⟩ = some (.int .i64 tk) ∧ w'.cell? ⟨tb, 1, none⟩ = some (.int .i64 tl) ∧ w'.cell? ⟨tb, 2, none⟩ = some (.int .i64 th))
      (first | with_reducible exact hS3 | with_reducible exact hS3a _ | with_reducible exact hS4 | with_reducible exact hS1 | with_reducible exact hSB0 | with_reducible exact hS4s _ _ _ _ _ _ | fail)
      (first | ((go_at_call 62; refine (pword_any x ⟨tk, tl, th⟩).asks hM.pw.drew rfl fun w3 hp3 hk3 => ?_; dsimp only [eS]; have hS3 := HeldN.keep (t := ⟨tk, tl, th⟩) hk3 htb hS1'.out; have hS3a := fun o => HeldN.alloc (o := o) (hp3.bound _ htb) hS3; unfold HeldN at hS3 hS3a; dsimp only at hS3 hS3a)) | ((go_at_call 62; refine (pword_any x ⟨tk, tl, th⟩).asks hMB.pw rfl fun w4 hp4 hk4 => ?_; dsimp only [eS]; obtain ⟨cn0, cn1, cn2, cn3, cn4, cn5, cnf⟩ := ndBox_at (by simp) (hk4.mine W1.heap.size (.inr (by simp))); have hS4 := HeldN.keep (t := ⟨tk, tl, th⟩) hk4 (.inl htb) hSB.out; have hS4s := HeldN.fars (nb := W1.heap.size) (by omega) hS4; unfold HeldN at hS4 hS4s; dsimp only at hS4 hS4s)))
    · have hX := NBox.made (hM.drew.step hk3 hp3) hlbw hgw 23 tl th 0 (wordOf x.s ⟨tk, tl, th⟩) (.slice none 0 0)
      clear hk3 hp3 hS3 hS3a hS1 hSB hSB0 hMB hS1' hM
      revert hX
      generalize w3.heap.size = nb
      intro hX
      obtain ⟨LN, hX⟩ : ∃ LN : Nat → Prop, NBox x L w LN _ _ nb _ _ _ _ _ _ := ⟨_, hX⟩
      cases hb : closedBegins x.toTxt st2 with
      | true =>
        replace hE := Eqn.mk (hE.out.trans (if_pos hb))
        have hB := Sec.mk hb
        clear hb
        go_wp2_with fail
        refine (closedBegins_any x).asks hX.mid.pw hB.out fun w' hp' hk' => ?_
        replace hX := hX.step hk' hp'
        clear hk' hp'
        try dsimp only [eN, eT, eB, eS, eU, eI, eNB]
        go_wp2_with fail
        refine (cC.out).use hX.mid.pw (ns_bind hN.out hE.out) (fun part st3 w5 he hp' hk' => ?_) (fun fl w5 he hk' => ?_)
        rotate_left
        · exact ⟨rfl, by rw [← e0.out]; exact hX.mid.toBad (bad_bind hE.out he) hk'⟩
        replace hE := Eqn.mk (eq_bind hE.out he)
        clear he
        replace hX := hX.step hk' hp'
        clear hk' hp'
        try dsimp only [eN, eT, eB, eS, eU, eI, eNB]
        go_wp2_with fail
        obtain ⟨nt, h1, h2⟩ := toOf_some (ns_bind hN.out hE.out)
        refine (to_still hX.mid.pw h1).mono ?_
        rintro e w6 ⟨rfl, h⟩
        obtain rfl := h.symm
        replace hE := Eqn.mk (eq_bind hE.out h2)
        clear h1 h2
        have hXf := ((hX.setHi nt.hi).alloc (.cells #[.int .i64 (part : Int)] 3)).setKids (.slice (some ⟨w5.heap.size, 0, none⟩) 1 1)
        have hkd := Sec.mk (kids_box (w5.setCell ⟨nb, 2, none⟩ (.int .i64 nt.hi)) LN (hX.setHi nt.hi).mid.pw.bound [(part : Int)] (by simp) nb 5 (.slice (some ⟨w5.heap.size, 0, none⟩) 1 1) hX.own w5.heap.size (by simp))
        have hXs := Sec.mk hXf
        have m5 := ((hX.setHi nt.hi).alloc (.cells #[.int .i64 (part : Int)] 3)).c5
        have mf := ((hX.setHi nt.hi).alloc (.cells #[.int .i64 (part : Int)] 3)).fz 5
        obtain ⟨_, _, _, _, _, d0, d1, d2, d3, d4, d5, _⟩ := hXf
        have hX' := Sec.mk hX
        obtain ⟨_, _, _, _, _, c0, c1, c2, c3, c4, c5, fz⟩ := hX
        go_wp2_with fail
        refine calls_useM (add_any x ⟨23, tl, nt.hi, 0, wordOf x.s ⟨tk, tl, th⟩, [(part : Int)]⟩ _ _ _ _ hXs.out.mid.pw hkd.out (ns_last hN.out hE.out)) (fun kk st' w' he hp' hk' => ?_) (fun fl w' he hk' => ?_)
        rotate_left
        · exact ⟨rfl, by rw [← e0.out]; exact hXs.out.mid.toBad (hE.out.trans he) hk'⟩
        replace hE := Eqn.mk (hE.out.trans he)
        clear he
        have hM := hXs.out.mid.step hk' hp'
        clear hk' hp'
        try dsimp only [eN]
        go_wp2_with fail
        rw [← e0.out]
        exact hM.toOk hE.out
      | false =>
        replace hE := Eqn.mk (hE.out.trans (if_neg (nott hb)))
        have hB := Sec.mk hb
        clear hb
        go_wp2_with fail
        refine (closedBegins_any x).asks hX.mid.pw hB.out fun w' hp' hk' => ?_
        replace hX := hX.step hk' hp'
        clear hk' hp'
        try dsimp only [eN, eT, eB, eS, eU, eI, eNB]
        have hX' := Sec.mk hX
        obtain ⟨_, _, _, _, _, c0, c1, c2, c3, c4, c5, fz⟩ := hX
        go_wp2_with fail
        refine calls_useM (add_any x ⟨23, tl, th, 0, wordOf x.s ⟨tk, tl, th⟩, []⟩ _ _ _ _ hX'.out.mid.pw (kids_nil _ _) (ns_last hN.out hE.out)) (fun kk st' w' he hp' hk' => ?_) (fun fl w' he hk' => ?_)
        rotate_left
        · exact ⟨rfl, by rw [← e0.out]; exact hX'.out.mid.toBad (hE.out.trans he) hk'⟩
        replace hE := Eqn.mk (hE.out.trans he)
        clear he
        have hM := hX'.out.mid.step hk' hp'
        clear hk' hp'
        try dsimp only [eN]
        go_wp2_with fail
        rw [← e0.out]
        exact hM.toOk hE.out
    · have hX := NBox.filled (nb := W1.heap.size) (hMB.step hk4 hp4) hlbw hgw (.inr (by simp)) hM.keeps.size 23 tl th 0 (wordOf x.s ⟨tk, tl, th⟩) (.slice none 0 0) ⟨_, _, _, _, _, _, cn0, cn1, cn2, cn3, cn4, cn5, cnf⟩
      clear hk4 hp4 hS4 hS4s hS1 hSB hSB0 hMB hS1' hM cn0 cn1 cn2 cn3 cn4 cn5 cnf
      revert hX
      generalize W1.heap.size = nb
      intro hX
      obtain ⟨LN, hX⟩ : ∃ LN : Nat → Prop, NBox x L w LN _ _ nb _ _ _ _ _ _ := ⟨_, hX⟩
      cases hb : closedBegins x.toTxt st2 with
      | true =>
        replace hE := Eqn.mk (hE.out.trans (if_pos hb))
        have hB := Sec.mk hb
        clear hb
        go_wp2_with fail
        refine (closedBegins_any x).asks hX.mid.pw hB.out fun w' hp' hk' => ?_
        replace hX := hX.step hk' hp'
        clear hk' hp'
        try dsimp only [eN, eT, eB, eS, eU, eI, eNB]
        go_wp2_with fail
        refine (cC.out).use hX.mid.pw (ns_bind hN.out hE.out) (fun part st3 w5 he hp' hk' => ?_) (fun fl w5 he hk' => ?_)
        rotate_left
        · exact ⟨rfl, by rw [← e0.out]; exact hX.mid.toBad (bad_bind hE.out he) hk'⟩
        replace hE := Eqn.mk (eq_bind hE.out he)
        clear he
        replace hX := hX.step hk' hp'
        clear hk' hp'
        try dsimp only [eN, eT, eB, eS, eU, eI, eNB]
        go_wp2_with fail
        obtain ⟨nt, h1, h2⟩ := toOf_some (ns_bind hN.out hE.out)
        refine (to_still hX.mid.pw h1).mono ?_
        rintro e w6 ⟨rfl, h⟩
        obtain rfl := h.symm
        replace hE := Eqn.mk (eq_bind hE.out h2)
        clear h1 h2
        have hXf := ((hX.setHi nt.hi).alloc (.cells #[.int .i64 (part : Int)] 3)).setKids (.slice (some ⟨w5.heap.size, 0, none⟩) 1 1)
        have hkd := Sec.mk (kids_box (w5.setCell ⟨nb, 2, none⟩ (.int .i64 nt.hi)) LN (hX.setHi nt.hi).mid.pw.bound [(part : Int)] (by simp) nb 5 (.slice (some ⟨w5.heap.size, 0, none⟩) 1 1) hX.own w5.heap.size (by simp))
        have hXs := Sec.mk hXf
        have m5 := ((hX.setHi nt.hi).alloc (.cells #[.int .i64 (part : Int)] 3)).c5
        have mf := ((hX.setHi nt.hi).alloc (.cells #[.int .i64 (part : Int)] 3)).fz 5
        obtain ⟨_, _, _, _, _, d0, d1, d2, d3, d4, d5, _⟩ := hXf
        have hX' := Sec.mk hX
        obtain ⟨_, _, _, _, _, c0, c1, c2, c3, c4, c5, fz⟩ := hX
        go_wp2_with fail
        refine calls_useM (add_any x ⟨23, tl, nt.hi, 0, wordOf x.s ⟨tk, tl, th⟩, [(part : Int)]⟩ _ _ _ _ hXs.out.mid.pw hkd.out (ns_last hN.out hE.out)) (fun kk st' w' he hp' hk' => ?_) (fun fl w' he hk' => ?_)
        rotate_left
        · exact ⟨rfl, by rw [← e0.out]; exact hXs.out.mid.toBad (hE.out.trans he) hk'⟩
        replace hE := Eqn.mk (hE.out.trans he)
        clear he
        have hM := hXs.out.mid.step hk' hp'
        clear hk' hp'
        try dsimp only [eN]
        go_wp2_with fail
        rw [← e0.out]
        exact hM.toOk hE.out
      | false =>
        replace hE := Eqn.mk (hE.out.trans (if_neg (nott hb)))
        have hB := Sec.mk hb
        clear hb
        go_wp2_with fail
        refine (closedBegins_any x).asks hX.mid.pw hB.out fun w' hp' hk' => ?_
        replace hX := hX.step hk' hp'
        clear hk' hp'
        try dsimp only [eN, eT, eB, eS, eU, eI, eNB]
        have hX' := Sec.mk hX
        obtain ⟨_, _, _, _, _, c0, c1, c2, c3, c4, c5, fz⟩ := hX
        go_wp2_with fail
        refine calls_useM (add_any x ⟨23, tl, th, 0, wordOf x.s ⟨tk, tl, th⟩, []⟩ _ _ _ _ hX'.out.mid.pw (kids_nil _ _) (ns_last hN.out hE.out)) (fun kk st' w' he hp' hk' => ?_) (fun fl w' he hk' => ?_)
        rotate_left
        · exact ⟨rfl, by rw [← e0.out]; exact hX'.out.mid.toBad (hE.out.trans he) hk'⟩
        replace hE := Eqn.mk (hE.out.trans he)
        clear he
        have hM := hX'.out.mid.step hk' hp'
        clear hk' hp'
        try dsimp only [eN]
        go_wp2_with fail
        rw [← e0.out]
        exact hM.toOk hE.out
  | false =>
    replace hE := Eqn.mk (hE.out.trans (if_neg (nott hb)))
    have hB := Sec.mk hb
    clear hb
    go_wp2_with fail
    refine (kind_any x 2).asks hM.pw hB.out fun w' hp' hk' => ?_
    replace hM := hM.step hk' hp'
    clear hk' hp'
    try dsimp only [eN, eT, eB, eS, eU, eI, eNB]
    go_wp2_with fail
    refine (cC.out).use hM.pw (ns_last hN.out hE.out) (fun k st' w' he hp' hk' => ?_) (fun fl w' he hk' => ?_)
    rotate_left
    · exact ⟨rfl, by rw [← e0.out]; exact hM.toBad (hE.out.trans he) hk'⟩
    replace hE := Eqn.mk (hE.out.trans he)
    clear he
    replace hM := hM.step hk' hp'
    clear hk' hp'
    try dsimp only [eN, eT, eB, eS, eU, eI, eNB]
    go_wp2_with fail
    rw [← e0.out]
    exact hM.toOk hE.out

end Go.Proofs.Ytkiijfgoaeiphaa

/- expr and pattern, to every depth. -/
set_option linter.unusedVariables false
set_option linter.unusedSimpArgs false
namespace Go.Proofs.Ytkiijfgoaeiphaa
open Go.RowKit
attribute [local go_sem ↓] Go.wp_at_zero Go.wp_at_succ

theorem fail_fault {α : Type} (x : Txt) (code : Nat) (st : PSt) : ∃ fl, (fail x code : M α) st = .bad fl := by
  simp only [fail]
  split <;> exact ⟨_, rfl⟩
theorem enter65 (x : Txt) (st : PSt) : enter x 65 st = (fail x 2 : M Unit) st := by simp only [enter]; rfl
theorem expr0_any (x : Cx) : Meets x 55 #[pp x.g, .int .i64 ((65 : Nat) : Int)] (fail x.toTxt 2 : M Nat) eN := by
  intro L w st hp hns
  have hE : Eqn (((fail x.toTxt 2 : M Nat)) st) (((fail x.toTxt 2 : M Nat)) st) := ⟨rfl⟩
  have hN := Sec.mk hns
  have hM := Mid.start hp
  clear hns
  generalize hPost : PostM x L eN w (((fail x.toTxt 2 : M Nat)) st) = Post
  have e0 := Sec.mk hPost
  clear hPost
  have flo := run_lo
  have fhi := run_hi
  go_enter Try.func55, Try.ntmps55
  go_wp2_with fail
  obtain ⟨f0, hf⟩ := fail_fault (α := Unit) x.toTxt 2 st
  have hF := Sec.mk hf
  clear hf
  refine (enter_any x 65 (by omega)).use hM.pw (by rw [enter65, hF.out]; exact nofun) (fun a st' w1 he h1 h2 => ?_) (fun fl w1 he hk' => ?_)
  · rw [enter65, hF.out] at he; cases he
  · rw [enter65] at he
    exact ⟨rfl, by rw [← e0.out]; exact hM.toBad (fail_alike he) hk'⟩

theorem pattern0_any (x : Cx) : Meets x 80 #[pp x.g, .int .i64 ((65 : Nat) : Int)] (fail x.toTxt 2 : M Nat) eN := by
  intro L w st hp hns
  have hE : Eqn (((fail x.toTxt 2 : M Nat)) st) (((fail x.toTxt 2 : M Nat)) st) := ⟨rfl⟩
  have hN := Sec.mk hns
  have hM := Mid.start hp
  clear hns
  generalize hPost : PostM x L eN w (((fail x.toTxt 2 : M Nat)) st) = Post
  have e0 := Sec.mk hPost
  clear hPost
  have flo := run_lo
  have fhi := run_hi
  go_enter Try.func80, Try.ntmps80
  go_wp2_with fail
  obtain ⟨f0, hf⟩ := fail_fault (α := Unit) x.toTxt 2 st
  have hF := Sec.mk hf
  clear hf
  refine (enter_any x 65 (by omega)).use hM.pw (by rw [enter65, hF.out]; exact nofun) (fun a st' w1 he h1 h2 => ?_) (fun fl w1 he hk' => ?_)
  · rw [enter65, hF.out] at he; cases he
  · rw [enter65] at he
    exact ⟨rfl, by rw [← e0.out]; exact hM.toBad (fail_alike he) hk'⟩

theorem typ0_any (x : Cx) : Meets x 75 #[pp x.g, .int .i64 ((65 : Nat) : Int)] (fail x.toTxt 2 : M Nat) eN := by
  intro L w st hp hns
  have hE : Eqn (((fail x.toTxt 2 : M Nat)) st) (((fail x.toTxt 2 : M Nat)) st) := ⟨rfl⟩
  have hN := Sec.mk hns
  have hM := Mid.start hp
  clear hns
  generalize hPost : PostM x L eN w (((fail x.toTxt 2 : M Nat)) st) = Post
  have e0 := Sec.mk hPost
  clear hPost
  have flo := run_lo
  have fhi := run_hi
  go_enter Try.func75, Try.ntmps75
  go_wp2_with fail
  obtain ⟨f0, hf⟩ := fail_fault (α := Unit) x.toTxt 2 st
  have hF := Sec.mk hf
  clear hf
  refine (enter_any x 65 (by omega)).use hM.pw (by rw [enter65, hF.out]; exact nofun) (fun a st' w1 he h1 h2 => ?_) (fun fl w1 he hk' => ?_)
  · rw [enter65, hF.out] at he; cases he
  · rw [enter65] at he
    exact ⟨rfl, by rw [← e0.out]; exact hM.toBad (fail_alike he) hk'⟩

def exprS (x : Txt) (E Pt : M Nat) : M Nat := fun st =>
  if isW x ⟨#[102, 117, 110]⟩ st then function x E st
  else if isW x ⟨#[108, 101, 116]⟩ st then letIn x E st
  else if isW x ⟨#[105, 102]⟩ st then choice x E st
  else if isW x ⟨#[109, 97, 116, 99, 104]⟩ st then matchM x E Pt st
  else compare x E st
theorem expr_any (x : Cx) (d : Nat) (E Pt : M Nat) (hd : d ≤ 64) (cE : Meets x 55 #[pp x.g, .int .i64 ((d : Int) + 1)] E eN) (cP : Meets x 80 #[pp x.g, .int .i64 ((d : Int) + 1)] Pt eN) : Meets x 55 #[pp x.g, .int .i64 d] (exprS x.toTxt E Pt) eN := by
  have cF := Sec.mk (function_any x d E hd cE)
  have cL := Sec.mk (letIn_any x d E hd cE)
  have cI := Sec.mk (choice_any x d E hd cE)
  have cM := Sec.mk (match_any x d E Pt hd cE cP)
  have cS : Sec (Meets x 74 #[pp x.g, .int .i64 d] (compare x.toTxt E) eN) := ⟨compare_any x d (sum x.toTxt E) (sum_any x d E (apply_any x d E (atom_any x d E hd cE)))⟩
  clear cE cP
  intro L w st hp hns
  have hE : Eqn ((exprS x.toTxt E Pt) st) ((exprS x.toTxt E Pt) st) := ⟨rfl⟩
  have hN := Sec.mk hns
  have hM := Mid.start hp
  clear hns
  generalize hPost : PostM x L eN w ((exprS x.toTxt E Pt) st) = Post
  have e0 := Sec.mk hPost
  clear hPost
  have flo := run_lo
  have fhi := run_hi
  go_enter Try.func55, Try.ntmps55
  go_wp2_with fail
  refine (enter_any x d (by omega)).useOk (a := ()) (st' := st) hM.pw (by simp only [enter, if_neg (show ¬ 64 < d by omega)]; rfl) fun w' hp' hk' => ?_
  replace hM := hM.step hk' hp'
  clear hk' hp'
  try dsimp only [eN, eT, eB, eS, eU, eI, eNB]
  cases hb : isW x.toTxt ⟨#[102, 117, 110]⟩ st with
  | true =>
    replace hE := Eqn.mk (hE.out.trans (if_pos hb))
    have hB := Sec.mk hb
    clear hb
    go_wp2_with fail
    refine (is_any' x ⟨#[102, 117, 110]⟩).asks hM.pw hB.out fun w' hp' hk' => ?_
    replace hM := hM.step hk' hp'
    clear hk' hp'
    try dsimp only [eN, eT, eB, eS, eU, eI, eNB]
    go_wp2_with fail
    refine (cF.out).use hM.pw (ns_last hN.out hE.out) (fun k st' w' he hp' hk' => ?_) (fun fl w' he hk' => ?_)
    rotate_left
    · exact ⟨rfl, by rw [← e0.out]; exact hM.toBad (hE.out.trans he) hk'⟩
    replace hE := Eqn.mk (hE.out.trans he)
    clear he
    replace hM := hM.step hk' hp'
    clear hk' hp'
    try dsimp only [eN, eT, eB, eS, eU, eI, eNB]
    go_wp2_with fail
    rw [← e0.out]
    exact hM.toOk hE.out
  | false =>
    replace hE := Eqn.mk (hE.out.trans (if_neg (nott hb)))
    have hB := Sec.mk hb
    clear hb
    go_wp2_with fail
    refine (is_any' x ⟨#[102, 117, 110]⟩).asks hM.pw hB.out fun w' hp' hk' => ?_
    replace hM := hM.step hk' hp'
    clear hk' hp'
    try dsimp only [eN, eT, eB, eS, eU, eI, eNB]
    cases hb : isW x.toTxt ⟨#[108, 101, 116]⟩ st with
    | true =>
      replace hE := Eqn.mk (hE.out.trans (if_pos hb))
      have hB := Sec.mk hb
      clear hb
      go_wp2_with fail
      refine (is_any' x ⟨#[108, 101, 116]⟩).asks hM.pw hB.out fun w' hp' hk' => ?_
      replace hM := hM.step hk' hp'
      clear hk' hp'
      try dsimp only [eN, eT, eB, eS, eU, eI, eNB]
      go_wp2_with fail
      refine (cL.out).use hM.pw (ns_last hN.out hE.out) (fun k st' w' he hp' hk' => ?_) (fun fl w' he hk' => ?_)
      rotate_left
      · exact ⟨rfl, by rw [← e0.out]; exact hM.toBad (hE.out.trans he) hk'⟩
      replace hE := Eqn.mk (hE.out.trans he)
      clear he
      replace hM := hM.step hk' hp'
      clear hk' hp'
      try dsimp only [eN, eT, eB, eS, eU, eI, eNB]
      go_wp2_with fail
      rw [← e0.out]
      exact hM.toOk hE.out
    | false =>
      replace hE := Eqn.mk (hE.out.trans (if_neg (nott hb)))
      have hB := Sec.mk hb
      clear hb
      go_wp2_with fail
      refine (is_any' x ⟨#[108, 101, 116]⟩).asks hM.pw hB.out fun w' hp' hk' => ?_
      replace hM := hM.step hk' hp'
      clear hk' hp'
      try dsimp only [eN, eT, eB, eS, eU, eI, eNB]
      cases hb : isW x.toTxt ⟨#[105, 102]⟩ st with
      | true =>
        replace hE := Eqn.mk (hE.out.trans (if_pos hb))
        have hB := Sec.mk hb
        clear hb
        go_wp2_with fail
        refine (is_any' x ⟨#[105, 102]⟩).asks hM.pw hB.out fun w' hp' hk' => ?_
        replace hM := hM.step hk' hp'
        clear hk' hp'
        try dsimp only [eN, eT, eB, eS, eU, eI, eNB]
        go_wp2_with fail
        refine (cI.out).use hM.pw (ns_last hN.out hE.out) (fun k st' w' he hp' hk' => ?_) (fun fl w' he hk' => ?_)
        rotate_left
        · exact ⟨rfl, by rw [← e0.out]; exact hM.toBad (hE.out.trans he) hk'⟩
        replace hE := Eqn.mk (hE.out.trans he)
        clear he
        replace hM := hM.step hk' hp'
        clear hk' hp'
        try dsimp only [eN, eT, eB, eS, eU, eI, eNB]
        go_wp2_with fail
        rw [← e0.out]
        exact hM.toOk hE.out
      | false =>
        replace hE := Eqn.mk (hE.out.trans (if_neg (nott hb)))
        have hB := Sec.mk hb
        clear hb
        go_wp2_with fail
        refine (is_any' x ⟨#[105, 102]⟩).asks hM.pw hB.out fun w' hp' hk' => ?_
        replace hM := hM.step hk' hp'
        clear hk' hp'
        try dsimp only [eN, eT, eB, eS, eU, eI, eNB]
        cases hb : isW x.toTxt ⟨#[109, 97, 116, 99, 104]⟩ st with
        | true =>
          replace hE := Eqn.mk (hE.out.trans (if_pos hb))
          have hB := Sec.mk hb
          clear hb
          go_wp2_with fail
          refine (is_any' x ⟨#[109, 97, 116, 99, 104]⟩).asks hM.pw hB.out fun w' hp' hk' => ?_
          replace hM := hM.step hk' hp'
          clear hk' hp'
          try dsimp only [eN, eT, eB, eS, eU, eI, eNB]
          go_wp2_with fail
          refine (cM.out).use hM.pw (ns_last hN.out hE.out) (fun k st' w' he hp' hk' => ?_) (fun fl w' he hk' => ?_)
          rotate_left
          · exact ⟨rfl, by rw [← e0.out]; exact hM.toBad (hE.out.trans he) hk'⟩
          replace hE := Eqn.mk (hE.out.trans he)
          clear he
          replace hM := hM.step hk' hp'
          clear hk' hp'
          try dsimp only [eN, eT, eB, eS, eU, eI, eNB]
          go_wp2_with fail
          rw [← e0.out]
          exact hM.toOk hE.out
        | false =>
          replace hE := Eqn.mk (hE.out.trans (if_neg (nott hb)))
          have hB := Sec.mk hb
          clear hb
          go_wp2_with fail
          refine (is_any' x ⟨#[109, 97, 116, 99, 104]⟩).asks hM.pw hB.out fun w' hp' hk' => ?_
          replace hM := hM.step hk' hp'
          clear hk' hp'
          try dsimp only [eN, eT, eB, eS, eU, eI, eNB]
          go_wp2_with fail
          refine (cS.out).use hM.pw (ns_last hN.out hE.out) (fun k st' w' he hp' hk' => ?_) (fun fl w' he hk' => ?_)
          rotate_left
          · exact ⟨rfl, by rw [← e0.out]; exact hM.toBad (hE.out.trans he) hk'⟩
          replace hE := Eqn.mk (hE.out.trans he)
          clear he
          replace hM := hM.step hk' hp'
          clear hk' hp'
          try dsimp only [eN, eT, eB, eS, eU, eI, eNB]
          go_wp2_with fail
          rw [← e0.out]
          exact hM.toOk hE.out

theorem pat_all (x : Cx) : ∀ (k d : Nat), d + k = 65 → Meets x 80 #[pp x.g, .int .i64 d] (patK x.toTxt k) eN := by
  intro k
  induction k with
  | zero =>
    intro d hd
    obtain rfl : d = 65 := by omega
    exact pattern0_any x
  | succ k ih =>
    intro d hd
    have h1 := ih (d + 1) (by omega)
    rw [show ((d + 1 : Nat) : Int) = (d : Int) + 1 from by omega] at h1
    exact pattern_any x d (closed x.toTxt (patK x.toTxt k)) (by omega) (closed_any x d _ (by omega) h1)
theorem expr_all (x : Cx) : ∀ (k d : Nat), d + k = 65 → Meets x 55 #[pp x.g, .int .i64 d] (exprK x.toTxt k) eN := by
  intro k
  induction k with
  | zero =>
    intro d hd
    obtain rfl : d = 65 := by omega
    exact expr0_any x
  | succ k ih =>
    intro d hd
    have h1 := ih (d + 1) (by omega)
    have h2 := pat_all x k (d + 1) (by omega)
    rw [show ((d + 1 : Nat) : Int) = (d : Int) + 1 from by omega] at h1 h2
    exact expr_any x d (exprK x.toTxt k) (patK x.toTxt k) (by omega) h1 h2
end Go.Proofs.Ytkiijfgoaeiphaa
