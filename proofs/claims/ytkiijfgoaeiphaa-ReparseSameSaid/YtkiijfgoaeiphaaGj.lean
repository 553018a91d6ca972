/- ReparseSame: a text out of itself is kept whole; what is kept is kept both ways. -/
import Derived.Test.YtkiijfgoaeiphaaGi
import Derived.Test.YtkiijfgoaeiphaaRows
import Derived.Test.YtkiijfgoaeiphaaGf
import Derived.SizedLaws
import Derived.ChangeMaps5
set_option linter.unusedVariables false
set_option linter.unusedSimpArgs false
namespace Go.Proofs.Ytkiijfgoaeiphaa
open Go.RowKit
attribute [local go_sem ↓] Go.wp_at_zero Go.wp_at_succ

theorem fronts_self (s : ByteArray) : ∀ l : List (Nat × Nat), fronts s s l l = l.length
  | [] => rfl
  | x :: xs => by
    rw [fronts, if_pos (by unfold samePiece; exact beq_self_eq_true _), fronts_self s xs]; rfl
theorem samePiece_comm (s t : ByteArray) (x y : Nat × Nat) : samePiece s t x y = samePiece t s y x := by
  unfold samePiece
  rw [Bool.eq_iff_iff, beq_iff_eq, beq_iff_eq]
  exact eq_comm
theorem fronts_comm (s t : ByteArray) : ∀ a b : List (Nat × Nat), fronts s t a b = fronts t s b a
  | [], [] => rfl
  | [], _ :: _ => rfl
  | _ :: _, [] => rfl
  | x :: xs, y :: ys => by rw [fronts, fronts, samePiece_comm, fronts_comm s t xs ys]
theorem front_self (s : ByteArray) : front s s = (spans s).length := fronts_self s _
theorem rear_self (s : ByteArray) : rear s s = 0 := by
  have := rear_le s s
  rw [front_self] at this
  omega
theorem front_comm (s t : ByteArray) : front s t = front t s := fronts_comm s t _ _
theorem rear_comm (s t : ByteArray) : rear s t = rear t s := by unfold rear ends; rw [front_comm, fronts_comm]

set_option maxRecDepth 100000 in
set_option maxHeartbeats 2000000 in
theorem same_walk (s t : ByteArray) (hs : s.size ≤ 140737488351232) (ht : t.size ≤ 140737488351232) (w : World) : Calls Try.prog 7 #[.string s, .string t] w fun e w' => e = .returned (.bool true) ∧ Below w.heap.size w w' := by
  generalize hPost : (fun (e : Ending) (w' : World) => e = .returned (.bool true) ∧ Below w.heap.size w w') = Post
  have e0 := Sec.mk hPost
  clear hPost
  have hs' : (s.size : Int) ≤ 140737488351232 := by omega
  have ht' : (t.size : Int) ≤ 140737488351232 := by omega
  have hw0 : IntKind.i64.wrap ((s.size : Int) + (t.size : Int)) = (s.size : Int) + (t.size : Int) := IntWalk.i64_in _ (by omega)
  have hls := spans_len s
  have hlt := spans_len t
  have hr1 := rear_le s t
  have hr2 := rear_le t s
  go_enter Try.func7, Try.ntmps7
  go_wp2_with fail
  refine (alive11_any _).mono ?_
  rintro e W0 ⟨rfl, hB0⟩
  by_cases hbig : 5000 < (s.size : Int) + (t.size : Int)
  · go_wp2_with fail
    rw [← e0.out]; exact ⟨rfl, hB0⟩
  have hs5 : s.size ≤ 5000 := by omega
  have ht5 : t.size ≤ 5000 := by omega
  go_wp2_with fail
  refine (changed_any s s (by omega) (by omega) _).mono ?_
  rintro e W1 ⟨rfl, hB1⟩
  go_wp2_with fail
  refine (changed_any s t (by omega) (by omega) _).mono ?_
  rintro e W2 ⟨rfl, hB2⟩
  go_wp2_with fail
  refine (changed_any t s (by omega) (by omega) _).mono ?_
  rintro e W3 ⟨rfl, hB3⟩
  go_wp2_with fail
  refine (Parse_all s (by omega) _).mono ?_
  rintro e W4 ⟨v4, l4, rfl, hl4, hD4⟩
  obtain ⟨a4, c4, hv⟩ := own_shape hD4.own
  subst hv
  have hB4 := (((hB0.trans (hB1.mono hB0.size)).trans (hB2.mono (by have := hB0.size; have := hB1.size; omega))).trans (hB3.mono (by have := hB0.size; have := hB1.size; have := hB2.size; omega))).trans (hD4.below.mono (by have := hB0.size; have := hB1.size; have := hB2.size; have := hB3.size; omega))
  go_wp2_with fail
  refine (Parse_all t (by omega) _).mono ?_
  rintro e W5 ⟨v5, l5, rfl, hl5, hD5⟩
  obtain ⟨a5, c5, hv⟩ := own_shape hD5.own
  subst hv
  have hB5 := hB4.trans (hD5.below.mono hB4.size)
  have hn4 : l4.length = (spans s).length := by rw [← parse_len, ← hl4, List.length_map]
  have hn5 : l5.length = (spans t).length := by rw [← parse_len, ← hl5, List.length_map]
  rw [hn4, hn5, front_self, rear_self, front_comm t s, rear_comm t s]
  rw [front_comm t s, rear_comm t s] at hr2
  clear hB0 hB1 hB2 hB3 hB4 hD4 hD5 hl4 hl5 hn4 hn5
  generalize (spans s).length = p at *
  generalize (spans t).length = q at *
  generalize front s t = f at *
  generalize rear s t = r at *
  have hw1 : IntKind.i64.wrap ((f : Int) + (r : Int)) = (f : Int) + (r : Int) := IntWalk.i64_in _ (by omega)
  have hw2 : IntKind.i64.wrap ((f : Int) + (r : Int) + ((q : Int) - (f : Int) - (r : Int))) = (q : Int) := (IntWalk.i64_in _ (by omega)).trans (by omega)
  have hw3 : IntKind.i64.wrap ((f : Int) + (r : Int) + ((p : Int) - (f : Int) - (r : Int))) = (p : Int) := (IntWalk.i64_in _ (by omega)).trans (by omega)
  have hw4 : (p : Int) - (p : Int) - ((0 : Nat) : Int) = 0 := by omega
  rw [hw4]
  go_wp2_with fail
  rw [← e0.out]
  exact ⟨rfl, hB5⟩
end Go.Proofs.Ytkiijfgoaeiphaa

/- Proved: parlancelaw11.ReparseSame answers true for every two strings, and they read as before. Conditions: none. -/
set_option linter.unusedVariables false
namespace Go.Proofs.Ytkiijfgoaeiphaa.ReparseSameProof
open Go.ChangeShapes Go.WideShapes Go.ChangeAt Go.RowKit Go.ChangeMaps
theorem own : ownKnob Try.prog.godebug = none := by kernel_rfl

set_option maxRecDepth 100000 in
theorem lifted (os : Os) (started : os.Started) (H : Type) (enc : TypeId × Value → H) :
    ReturnsInHanded {} Try.checked os 7 .any (Rows.reparseSameSpec.pre6 enc Try.prog Try.f7 Rows.reparseSameRow.domain false) (Rows.reparseSameSpec.post enc Try.prog Try.f7 false true false false) := by
  refine returnsInHanded_of_change_sized (C := Try.checked) own started (by kernel_rfl) Try.func7
    (ChangeSpec.witness6 (enc := enc) (C := Try.checked) false ⟨#[], #[.string ⟨#[]⟩, .string ⟨#[]⟩], []⟩ 8 (by kernel_rfl) (by kernel_rfl) (by kernel_rfl) (by kernel_rfl)) ?_
  intro W base args ds gs before hval0 hW hcnd hsz _
  have hval : ∀ (j : Nat) t v, Try.f7.params[j]? = some t → args[j]? = some v → Value.okWide Try.prog W .any base t v := hval0
  have hW' := hW
  obtain ⟨p, q, hA0, hV, rfl, hfz, hnd⟩ := hW
  have hA : DataW.TrodAll enc Try.prog W 0 (fun _ => true) true Try.f7.params.toList args.toList ds p := hA0
  rw [Try.params7] at hA hval
  obtain ⟨v0, vs0, d0, ds0, p0, q0, hargs, rfl, rfl, h0, r0⟩ := trodAll_cons hA
  obtain ⟨v1, vs1, d1, ds1, p1, q1, rfl, rfl, rfl, h1, r1⟩ := trodAll_cons r0
  obtain ⟨rfl, rfl, rfl⟩ := trodAll_nil r1
  obtain rfl : args = #[v0, v1] := by cases args; simp_all
  obtain ⟨rfl, rfl⟩ := trodVars_none hV
  obtain ⟨a, rfl, rfl, rfl, z0⟩ := open_string Try.underlying9 (hval 0 9 v0 rfl rfl) h0
  obtain ⟨b, rfl, rfl, rfl, z1⟩ := open_string Try.underlying9 (hval 1 9 v1 rfl rfl) h1
  have k0 : a.data.toList.length ≤ reachBytes := sized_string hsz (j := 0) (t := 9) rfl rfl
  have k1 : b.data.toList.length ≤ reachBytes := sized_string hsz (j := 1) (t := 9) rfl rfl
  have kr : reachBytes = 140737488351232 := by decide
  rw [kr] at k0 k1
  clear hA0 hval0
  simp only [List.append_nil] at hW'
  refine (same_walk a b (by simpa using k0) (by simpa using k1) W).mono fun e W' ⟨he, hg⟩ => ?_
  subst he
  refine ⟨_, rfl, post_below (pa := []) (pv := []) hW' (fun _ _ _ => (trodAll_cons_mk (shut_bool Try.underlying4 _) trodAll_mk0)) (fun sp _ => (trodAll_cons_mk (shut_string Try.underlying9 z0) (trodAll_cons_mk (shut_string Try.underlying9 z1) trodAll_mk0))) (fun _ _ => rfl) rfl hg (ok_one (by kernel_rfl) rfl (okWide_bool_mk Try.underlying4 _))⟩

theorem over : Rows.reparseSameRow.holds Try.pinned (OpenSpec.ofChange Rows.reparseSameSpec) :=
  OpenClaim.holds_of_wide 7 Try.f7 rfl rfl rfl rfl rfl rfl rfl ⟨rfl, rfl, rfl, rfl, rfl⟩ rfl rfl rfl rfl rfl (by kernel_rfl) Try.func7 (by kernel_rfl)
    (of_decide_eq_true (by kernel_rfl)) (by unfold Func.isWrapper; first | (rw [if_pos (by decide +kernel)]; kernel_rfl) | (rw [if_neg (by decide +kernel)]; exact ⟨rfl, rfl⟩))
    (fun os started H enc _ => lifted os started H enc)

theorem proved : Rows.ReparseSameSaid := over
#print axioms proved
end Go.Proofs.Ytkiijfgoaeiphaa.ReparseSameProof
