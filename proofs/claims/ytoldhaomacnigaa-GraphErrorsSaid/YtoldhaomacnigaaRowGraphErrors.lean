/- GraphErrors: its row, out of its contract. No condition. -/
import Derived.Test.YtoldhaomacnigaaRows
import Derived.Test.YtoldhaomacnigaaRowLib
import Derived.Test.YtoldhaomacnigaaGrN
import Derived.Test.YtoldhaomacnigaaRowSS
namespace Go.Proofs.Ytoldhaomacnigaa.rowGraphErrors
open Go.ChangeShapes Go.WideShapes Go.ChangeAt Go.RowKit Go.Deep Go.Proofs.Ytoldhaomacnigaa.RL
set_option linter.unusedVariables false
theorem own : ownKnob Try.prog.godebug = none := by kernel_rfl
theorem laid : laidOutB Try.prog = true := by kernel_rfl
theorem rowed : (Try.f8.params.toList.all fun t => Try.prog.readableRec t && decide (t < Try.prog.types.size)) = true := by kernel_rfl
set_option maxRecDepth 100000 in
set_option maxHeartbeats 1000000 in
theorem lifted (os : Os) (started : os.Started) (H : Type) (enc : TypeId × Value → H) :
    ReturnsInHanded {} Try.checked os 8 .any (Rows.graphErrorsSpec.pre6 enc Try.prog Try.f8 Rows.graphErrorsRow.domain false) (Rows.graphErrorsSpec.post enc Try.prog Try.f8 false true false false) := by
  refine returnsInHanded_of_change_sized (C := Try.checked) own started (by kernel_rfl) Try.func8
    (ChangeSpec.witness6 (enc := enc) (C := Try.checked) false ⟨#[], #[.int .u8 0, .slice none 0 0, .agg #[.int .i64 0, .int .i64 0, .int .i64 0, .int .i64 0, .int .u64 0]], []⟩ 8 (by kernel_rfl) (by kernel_rfl) (by kernel_rfl) (by kernel_rfl)) ?_
  intro W base args ds gs before hval0 hW hcnd hsz0 _
  have hval : ∀ (j : Nat) t v, Try.f8.params[j]? = some t → args[j]? = some v → Value.okWide Try.prog W .any base t v := hval0
  have hW' := hW
  obtain ⟨p, q, hA0, hV, rfl, hfz, hnd⟩ := hW
  have hA : DataW.TrodAll enc Try.prog W 0 (fun _ => true) true Try.f8.params.toList args.toList ds p := hA0
  obtain ⟨rfl, rfl⟩ := trodVars_none hV
  have hargs : ∀ W', Below W.heap.size W W' → DataW.TrodAll enc Try.prog W' 0 (fun b => decide (b < W.heap.size)) true Try.f8.params.toList args.toList ds p :=
    fun W' hb => trodAll_below laid hb rowed hA fun x hx => hW'.lt x (List.mem_append.2 (.inl hx))
  rw [Try.params8] at hA hval
  obtain ⟨v0, vs0, d0, ds0, p0, q0, hargs0, rfl, rfl, h0, r0⟩ := trodAll_cons hA
  obtain ⟨v1, vs1, d1, ds1, p1, q1, rfl, rfl, rfl, h1, r1⟩ := trodAll_cons r0
  obtain ⟨v2, vs2, d2, ds2, p2, q2, rfl, rfl, rfl, h2, r2⟩ := trodAll_cons r1
  obtain ⟨rfl, rfl, rfl⟩ := trodAll_nil r2
  obtain rfl : args = #[v0, v1, v2] := by cases args; simp_all
  obtain ⟨a0, rfl, rfl, rfl, w0⟩ := open_int Try.underlying5 (hval 0 5 v0 rfl rfl) h0
  obtain ⟨a1, s1, w1⟩ := open_A5 Try.underlying22 Try.underlying33 (by kernel_rfl) (by kernel_rfl) Try.underlying3 Try.underlying28 (by kernel_rfl) (hval 1 22 v1 rfl rfl) h1
  obtain ⟨cs2, m2, rfl, hl2, hf2⟩ := open_agg Try.underlying33 (by kernel_rfl) (by kernel_rfl) (hval 2 33 v2 rfl rfl) h2
  obtain ⟨c2_0, y2_0, hc2_0, hy2_0⟩ := hf2 0 _ rfl
  obtain ⟨a2_0, rfl, w2_0⟩ := field_int Try.underlying3 hy2_0
  obtain ⟨c2_1, y2_1, hc2_1, hy2_1⟩ := hf2 1 _ rfl
  obtain ⟨a2_1, rfl, w2_1⟩ := field_int Try.underlying3 hy2_1
  obtain ⟨c2_2, y2_2, hc2_2, hy2_2⟩ := hf2 2 _ rfl
  obtain ⟨a2_2, rfl, w2_2⟩ := field_int Try.underlying3 hy2_2
  obtain ⟨c2_3, y2_3, hc2_3, hy2_3⟩ := hf2 3 _ rfl
  obtain ⟨a2_3, rfl, w2_3⟩ := field_int Try.underlying3 hy2_3
  obtain ⟨c2_4, y2_4, hc2_4, hy2_4⟩ := hf2 4 _ rfl
  obtain ⟨a2_4, rfl, w2_4⟩ := field_int Try.underlying28 hy2_4
  obtain rfl : cs2 = [.int .i64 a2_0, .int .i64 a2_1, .int .i64 a2_2, .int .i64 a2_3, .int .u64 a2_4] := list_of_5 hl2 hc2_0 hc2_1 hc2_2 hc2_3 hc2_4
  clear hf2
  clear hA0 hval0 hsz0 hval
  refine (Gr.Errors_calls a0 ⟨a2_0, a2_1, a2_2, a2_3, a2_4⟩ W (u8_b w0) s1 (fun x hx => w1 x hx) ⟨i64_b w2_0, i64_b w2_1, i64_b w2_2, i64_b w2_3, u64_b w2_4⟩).mono fun e W' ⟨he, bel⟩ => ?_
  subst he
  exact ⟨_, rfl, _, _, _, [], _, [], hW', trodAll_mk1 (shut_bool Try.underlying4 _), hargs W' bel, rfl, bel.frame _, fun h => by cases h⟩
theorem over : Rows.graphErrorsRow.holds Try.pinned (OpenSpec.ofChange Rows.graphErrorsSpec) :=
  OpenClaim.holds_of_wide 8 Try.f8 rfl rfl rfl rfl rfl rfl rfl ⟨rfl, rfl, rfl, rfl, rfl⟩ rfl rfl rfl rfl rfl (by kernel_rfl) Try.func8 (by kernel_rfl)
    (of_decide_eq_true (by kernel_rfl)) (by unfold Func.isWrapper; first | (rw [if_pos (by decide +kernel)]; kernel_rfl) | (rw [if_neg (by decide +kernel)]; exact ⟨rfl, rfl⟩))
    (fun os started H enc _ => lifted os started H enc)
end Go.Proofs.Ytoldhaomacnigaa.rowGraphErrors
namespace Go.Proofs.Ytoldhaomacnigaa
theorem graphErrors_holds : Rows.GraphErrorsSaid := rowGraphErrors.over
#print axioms graphErrors_holds
end Go.Proofs.Ytoldhaomacnigaa
