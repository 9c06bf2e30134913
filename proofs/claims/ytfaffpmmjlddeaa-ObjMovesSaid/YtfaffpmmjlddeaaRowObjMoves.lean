/- ObjMoves: its row, out of its contract. No condition. -/
import Derived.Test.YtfaffpmmjlddeaaRows
import Derived.Test.YtfaffpmmjlddeaaRowLib
import Derived.Test.YtfaffpmmjlddeaaObjMoves
namespace Go.Proofs.Ytfaffpmmjlddeaa.rowObjMoves
open Go.ChangeShapes Go.WideShapes Go.ChangeAt Go.RowKit Go.Deep Go.Proofs.Ytfaffpmmjlddeaa.RL
set_option linter.unusedVariables false
theorem own : ownKnob Try.prog.godebug = none := by kernel_rfl
theorem laid : laidOutB Try.prog = true := by kernel_rfl
theorem rowed : (Try.f10.params.toList.all fun t => Try.prog.readableRec t && decide (t < Try.prog.types.size)) = true := by kernel_rfl
set_option maxRecDepth 100000 in
set_option maxHeartbeats 1000000 in
theorem lifted (os : Os) (started : os.Started) (H : Type) (enc : TypeId × Value → H) :
    ReturnsInHanded {} Try.checked os 10 .any (Rows.objMovesSpec.pre6 enc Try.prog Try.f10 Rows.objMovesRow.domain false) (Rows.objMovesSpec.post enc Try.prog Try.f10 false true false false) := by
  refine returnsInHanded_of_change_sized (C := Try.checked) own started (by kernel_rfl) Try.func10
    (ChangeSpec.witness6 (enc := enc) (C := Try.checked) false ⟨#[], #[.int .u8 0, .int .u64 0, .int .i64 0, .int .i64 0, .agg #[.int .i64 0, .int .i64 0, .int .i64 0, .int .i64 0, .bool false, .bool false, .bool false]], []⟩ 8 (by kernel_rfl) (by kernel_rfl) (by kernel_rfl) (by kernel_rfl)) ?_
  intro W base args ds gs before hval0 hW hcnd hsz0 _
  have hval : ∀ (j : Nat) t v, Try.f10.params[j]? = some t → args[j]? = some v → Value.okWide Try.prog W .any base t v := hval0
  have hW' := hW
  obtain ⟨p, q, hA0, hV, rfl, hfz, hnd⟩ := hW
  have hA : DataW.TrodAll enc Try.prog W 0 (fun _ => true) true Try.f10.params.toList args.toList ds p := hA0
  obtain ⟨rfl, rfl⟩ := trodVars_none hV
  have hargs : ∀ W', Below W.heap.size W W' → DataW.TrodAll enc Try.prog W' 0 (fun b => decide (b < W.heap.size)) true Try.f10.params.toList args.toList ds p :=
    fun W' hb => trodAll_below laid hb rowed hA fun x hx => hW'.lt x (List.mem_append.2 (.inl hx))
  rw [Try.params10] at hA hval
  obtain ⟨v0, vs0, d0, ds0, p0, q0, hargs0, rfl, rfl, h0, r0⟩ := trodAll_cons hA
  obtain ⟨v1, vs1, d1, ds1, p1, q1, rfl, rfl, rfl, h1, r1⟩ := trodAll_cons r0
  obtain ⟨v2, vs2, d2, ds2, p2, q2, rfl, rfl, rfl, h2, r2⟩ := trodAll_cons r1
  obtain ⟨v3, vs3, d3, ds3, p3, q3, rfl, rfl, rfl, h3, r3⟩ := trodAll_cons r2
  obtain ⟨v4, vs4, d4, ds4, p4, q4, rfl, rfl, rfl, h4, r4⟩ := trodAll_cons r3
  obtain ⟨rfl, rfl, rfl⟩ := trodAll_nil r4
  obtain rfl : args = #[v0, v1, v2, v3, v4] := by cases args; simp_all
  obtain ⟨a0, rfl, rfl, rfl, w0⟩ := open_int Try.underlying5 (hval 0 5 v0 rfl rfl) h0
  obtain ⟨a1, rfl, rfl, rfl, w1⟩ := open_int Try.underlying24 (hval 1 24 v1 rfl rfl) h1
  obtain ⟨a2, rfl, rfl, rfl, w2⟩ := open_int Try.underlying3 (hval 2 3 v2 rfl rfl) h2
  obtain ⟨a3, rfl, rfl, rfl, w3⟩ := open_int Try.underlying3 (hval 3 3 v3 rfl rfl) h3
  obtain ⟨cs4, m4, rfl, hl4, hf4⟩ := open_agg Try.underlying44 (by kernel_rfl) (by kernel_rfl) (hval 4 44 v4 rfl rfl) h4
  obtain ⟨c4_0, y4_0, hc4_0, hy4_0⟩ := hf4 0 _ rfl
  obtain ⟨a4_0, rfl, w4_0⟩ := field_int Try.underlying3 hy4_0
  obtain ⟨c4_1, y4_1, hc4_1, hy4_1⟩ := hf4 1 _ rfl
  obtain ⟨a4_1, rfl, w4_1⟩ := field_int Try.underlying3 hy4_1
  obtain ⟨c4_2, y4_2, hc4_2, hy4_2⟩ := hf4 2 _ rfl
  obtain ⟨a4_2, rfl, w4_2⟩ := field_int Try.underlying3 hy4_2
  obtain ⟨c4_3, y4_3, hc4_3, hy4_3⟩ := hf4 3 _ rfl
  obtain ⟨a4_3, rfl, w4_3⟩ := field_int Try.underlying3 hy4_3
  obtain ⟨c4_4, y4_4, hc4_4, hy4_4⟩ := hf4 4 _ rfl
  obtain ⟨a4_4, rfl⟩ := field_bool Try.underlying4 hy4_4
  obtain ⟨c4_5, y4_5, hc4_5, hy4_5⟩ := hf4 5 _ rfl
  obtain ⟨a4_5, rfl⟩ := field_bool Try.underlying4 hy4_5
  obtain ⟨c4_6, y4_6, hc4_6, hy4_6⟩ := hf4 6 _ rfl
  obtain ⟨a4_6, rfl⟩ := field_bool Try.underlying4 hy4_6
  obtain rfl : cs4 = [.int .i64 a4_0, .int .i64 a4_1, .int .i64 a4_2, .int .i64 a4_3, .bool a4_4, .bool a4_5, .bool a4_6] := list_of_7 hl4 hc4_0 hc4_1 hc4_2 hc4_3 hc4_4 hc4_5 hc4_6
  clear hf4
  clear hA0 hval0 hsz0 hval
  refine (Ob.Moves_calls a0 a1 a2 a3 a4_0 a4_1 a4_2 a4_3 a4_4 a4_5 a4_6 W (u8_b w0).1 (u8_b w0).2 ⟨(u64_b w1).1, by have := (u64_b w1).2; omega⟩).mono fun e W' ⟨he, bel⟩ => ?_
  subst he
  exact ⟨_, rfl, _, _, _, [], _, [], hW', trodAll_mk1 (shut_bool Try.underlying4 _), hargs W' bel, rfl, bel.frame _, fun h => by cases h⟩
theorem over : Rows.objMovesRow.holds Try.pinned (OpenSpec.ofChange Rows.objMovesSpec) :=
  OpenClaim.holds_of_wide 10 Try.f10 rfl rfl rfl rfl rfl rfl rfl ⟨rfl, rfl, rfl, rfl, rfl⟩ rfl rfl rfl rfl rfl (by kernel_rfl) Try.func10 (by kernel_rfl)
    (of_decide_eq_true (by kernel_rfl)) (by unfold Func.isWrapper; first | (rw [if_pos (by decide +kernel)]; kernel_rfl) | (rw [if_neg (by decide +kernel)]; exact ⟨rfl, rfl⟩))
    (fun os started H enc _ => lifted os started H enc)
end Go.Proofs.Ytfaffpmmjlddeaa.rowObjMoves
namespace Go.Proofs.Ytfaffpmmjlddeaa
theorem objMoves_holds : Rows.ObjMovesSaid := rowObjMoves.over
#print axioms objMoves_holds
end Go.Proofs.Ytfaffpmmjlddeaa
