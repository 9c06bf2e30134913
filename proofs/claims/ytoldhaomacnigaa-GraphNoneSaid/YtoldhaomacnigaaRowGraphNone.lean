/- GraphNone: its row, out of its contract. No condition. -/
import Derived.Test.YtoldhaomacnigaaRows
import Derived.Test.YtoldhaomacnigaaRowLib
import Derived.Test.YtoldhaomacnigaaGrL
namespace Go.Proofs.Ytoldhaomacnigaa.rowGraphNone
open Go.ChangeShapes Go.WideShapes Go.ChangeAt Go.RowKit Go.Deep Go.Proofs.Ytoldhaomacnigaa.RL
set_option linter.unusedVariables false
theorem own : ownKnob Try.prog.godebug = none := by kernel_rfl
theorem laid : laidOutB Try.prog = true := by kernel_rfl
theorem rowed : (Try.f6.params.toList.all fun t => Try.prog.readableRec t && decide (t < Try.prog.types.size)) = true := by kernel_rfl
set_option maxRecDepth 100000 in
set_option maxHeartbeats 1000000 in
theorem lifted (os : Os) (started : os.Started) (H : Type) (enc : TypeId × Value → H) :
    ReturnsInHanded {} Try.checked os 6 .any (Rows.graphNoneSpec.pre6 enc Try.prog Try.f6 Rows.graphNoneRow.domain false) (Rows.graphNoneSpec.post enc Try.prog Try.f6 false true false false) := by
  refine returnsInHanded_of_change_sized (C := Try.checked) own started (by kernel_rfl) Try.func6
    (ChangeSpec.witness6 (enc := enc) (C := Try.checked) false ⟨#[], #[.agg #[.int .i64 0, .int .i64 0, .int .i64 0, .int .i64 0, .int .u64 0]], []⟩ 8 (by kernel_rfl) (by kernel_rfl) (by kernel_rfl) (by kernel_rfl)) ?_
  intro W base args ds gs before hval0 hW hcnd hsz0 _
  have hval : ∀ (j : Nat) t v, Try.f6.params[j]? = some t → args[j]? = some v → Value.okWide Try.prog W .any base t v := hval0
  have hW' := hW
  obtain ⟨p, q, hA0, hV, rfl, hfz, hnd⟩ := hW
  have hA : DataW.TrodAll enc Try.prog W 0 (fun _ => true) true Try.f6.params.toList args.toList ds p := hA0
  obtain ⟨rfl, rfl⟩ := trodVars_none hV
  have hargs : ∀ W', Below W.heap.size W W' → DataW.TrodAll enc Try.prog W' 0 (fun b => decide (b < W.heap.size)) true Try.f6.params.toList args.toList ds p :=
    fun W' hb => trodAll_below laid hb rowed hA fun x hx => hW'.lt x (List.mem_append.2 (.inl hx))
  rw [Try.params6] at hA hval
  obtain ⟨v0, vs0, d0, ds0, p0, q0, hargs0, rfl, rfl, h0, r0⟩ := trodAll_cons hA
  obtain ⟨rfl, rfl, rfl⟩ := trodAll_nil r0
  obtain rfl : args = #[v0] := by cases args; simp_all
  obtain ⟨cs0, m0, rfl, hl0, hf0⟩ := open_agg Try.underlying33 (by kernel_rfl) (by kernel_rfl) (hval 0 33 v0 rfl rfl) h0
  obtain ⟨c0_0, y0_0, hc0_0, hy0_0⟩ := hf0 0 _ rfl
  obtain ⟨a0_0, rfl, w0_0⟩ := field_int Try.underlying3 hy0_0
  obtain ⟨c0_1, y0_1, hc0_1, hy0_1⟩ := hf0 1 _ rfl
  obtain ⟨a0_1, rfl, w0_1⟩ := field_int Try.underlying3 hy0_1
  obtain ⟨c0_2, y0_2, hc0_2, hy0_2⟩ := hf0 2 _ rfl
  obtain ⟨a0_2, rfl, w0_2⟩ := field_int Try.underlying3 hy0_2
  obtain ⟨c0_3, y0_3, hc0_3, hy0_3⟩ := hf0 3 _ rfl
  obtain ⟨a0_3, rfl, w0_3⟩ := field_int Try.underlying3 hy0_3
  obtain ⟨c0_4, y0_4, hc0_4, hy0_4⟩ := hf0 4 _ rfl
  obtain ⟨a0_4, rfl, w0_4⟩ := field_int Try.underlying28 hy0_4
  obtain rfl : cs0 = [.int .i64 a0_0, .int .i64 a0_1, .int .i64 a0_2, .int .i64 a0_3, .int .u64 a0_4] := list_of_5 hl0 hc0_0 hc0_1 hc0_2 hc0_3 hc0_4
  clear hf0
  clear hA0 hval0 hsz0 hval
  refine (Gr.None_calls a0_0 a0_1 a0_2 a0_3 a0_4 W).mono fun e W' ⟨he, bel⟩ => ?_
  subst he
  exact ⟨_, rfl, _, _, _, [], _, [], hW', trodAll_mk1 (shut_bool Try.underlying4 _), hargs W' bel, rfl, bel.frame _, fun h => by cases h⟩
theorem over : Rows.graphNoneRow.holds Try.pinned (OpenSpec.ofChange Rows.graphNoneSpec) :=
  OpenClaim.holds_of_wide 6 Try.f6 rfl rfl rfl rfl rfl rfl rfl ⟨rfl, rfl, rfl, rfl, rfl⟩ rfl rfl rfl rfl rfl (by kernel_rfl) Try.func6 (by kernel_rfl)
    (of_decide_eq_true (by kernel_rfl)) (by unfold Func.isWrapper; first | (rw [if_pos (by decide +kernel)]; kernel_rfl) | (rw [if_neg (by decide +kernel)]; exact ⟨rfl, rfl⟩))
    (fun os started H enc _ => lifted os started H enc)
end Go.Proofs.Ytoldhaomacnigaa.rowGraphNone
namespace Go.Proofs.Ytoldhaomacnigaa
theorem graphNone_holds : Rows.GraphNoneSaid := rowGraphNone.over
#print axioms graphNone_holds
end Go.Proofs.Ytoldhaomacnigaa
