/- ObjMakes: its row, out of its contract. No condition. -/
import Derived.Test.YtfaffpmmjlddeaaRows
import Derived.Test.YtfaffpmmjlddeaaRowLib
import Derived.Test.YtfaffpmmjlddeaaObjMakes
namespace Go.Proofs.Ytfaffpmmjlddeaa.rowObjMakes
open Go.ChangeShapes Go.WideShapes Go.ChangeAt Go.RowKit Go.Deep Go.Proofs.Ytfaffpmmjlddeaa.RL
set_option linter.unusedVariables false
theorem own : ownKnob Try.prog.godebug = none := by kernel_rfl
theorem laid : laidOutB Try.prog = true := by kernel_rfl
theorem rowed : (Try.f8.params.toList.all fun t => Try.prog.readableRec t && decide (t < Try.prog.types.size)) = true := by kernel_rfl
set_option maxRecDepth 100000 in
set_option maxHeartbeats 1000000 in
theorem lifted (os : Os) (started : os.Started) (H : Type) (enc : TypeId × Value → H) :
    ReturnsInHanded {} Try.checked os 8 .any (Rows.objMakesSpec.pre6 enc Try.prog Try.f8 Rows.objMakesRow.domain false) (Rows.objMakesSpec.post enc Try.prog Try.f8 false true false false) := by
  refine returnsInHanded_of_change_sized (C := Try.checked) own started (by kernel_rfl) Try.func8
    (ChangeSpec.witness6 (enc := enc) (C := Try.checked) false ⟨#[], #[.int .u8 0, .int .u64 0, .int .i64 0, .agg #[.int .i64 0, .int .i64 0, .int .i64 0, .int .i64 0, .bool false, .bool false, .bool false]], []⟩ 8 (by kernel_rfl) (by kernel_rfl) (by kernel_rfl) (by kernel_rfl)) ?_
  intro W base args ds gs before hval0 hW hcnd hsz0 _
  have hval : ∀ (j : Nat) t v, Try.f8.params[j]? = some t → args[j]? = some v → Value.okWide Try.prog W .any base t v := hval0
  have hW' := hW
  obtain ⟨p, q, hA0, hV, rfl, hfz, hnd⟩ := hW
  have hA : DataW.TrodAll enc Try.prog W 0 (fun _ => true) true Try.f8.params.toList args.toList ds p := hA0
  obtain ⟨rfl, rfl⟩ := trodVars_none hV
  have hargs : ∀ W', Below W.heap.size W W' → DataW.TrodAll enc Try.prog W' 0 (fun b => decide (b < W.heap.size)) true Try.f8.params.toList args.toList ds p :=
    fun W' hb => trodAll_below laid hb rowed hA fun x hx => hW'.lt x (List.mem_append.2 (.inl hx))
  rw [Try.params8] at hA hval
  obtain ⟨v0, vs0, d0, ds0, p0, q0, hargs0, rfl, rfl, h0, r0⟩ := trodAll_cons hA
  obtain ⟨v1, vs1, d1, ds1, p1, q1, rfl, rfl, rfl, h1, r1⟩ := trodAll_cons r0
  obtain ⟨v2, vs2, d2, ds2, p2, q2, rfl, rfl, rfl, h2, r2⟩ := trodAll_cons r1
  obtain ⟨v3, vs3, d3, ds3, p3, q3, rfl, rfl, rfl, h3, r3⟩ := trodAll_cons r2
  obtain ⟨rfl, rfl, rfl⟩ := trodAll_nil r3
  obtain rfl : args = #[v0, v1, v2, v3] := by cases args; simp_all
  obtain ⟨a0, rfl, rfl, rfl, w0⟩ := open_int Try.underlying5 (hval 0 5 v0 rfl rfl) h0
  obtain ⟨a1, rfl, rfl, rfl, w1⟩ := open_int Try.underlying24 (hval 1 24 v1 rfl rfl) h1
  obtain ⟨a2, rfl, rfl, rfl, w2⟩ := open_int Try.underlying3 (hval 2 3 v2 rfl rfl) h2
  obtain ⟨cs3, m3, rfl, hl3, hf3⟩ := open_agg Try.underlying44 (by kernel_rfl) (by kernel_rfl) (hval 3 44 v3 rfl rfl) h3
  obtain ⟨c3_0, y3_0, hc3_0, hy3_0⟩ := hf3 0 _ rfl
  obtain ⟨a3_0, rfl, w3_0⟩ := field_int Try.underlying3 hy3_0
  obtain ⟨c3_1, y3_1, hc3_1, hy3_1⟩ := hf3 1 _ rfl
  obtain ⟨a3_1, rfl, w3_1⟩ := field_int Try.underlying3 hy3_1
  obtain ⟨c3_2, y3_2, hc3_2, hy3_2⟩ := hf3 2 _ rfl
  obtain ⟨a3_2, rfl, w3_2⟩ := field_int Try.underlying3 hy3_2
  obtain ⟨c3_3, y3_3, hc3_3, hy3_3⟩ := hf3 3 _ rfl
  obtain ⟨a3_3, rfl, w3_3⟩ := field_int Try.underlying3 hy3_3
  obtain ⟨c3_4, y3_4, hc3_4, hy3_4⟩ := hf3 4 _ rfl
  obtain ⟨a3_4, rfl⟩ := field_bool Try.underlying4 hy3_4
  obtain ⟨c3_5, y3_5, hc3_5, hy3_5⟩ := hf3 5 _ rfl
  obtain ⟨a3_5, rfl⟩ := field_bool Try.underlying4 hy3_5
  obtain ⟨c3_6, y3_6, hc3_6, hy3_6⟩ := hf3 6 _ rfl
  obtain ⟨a3_6, rfl⟩ := field_bool Try.underlying4 hy3_6
  obtain rfl : cs3 = [.int .i64 a3_0, .int .i64 a3_1, .int .i64 a3_2, .int .i64 a3_3, .bool a3_4, .bool a3_5, .bool a3_6] := list_of_7 hl3 hc3_0 hc3_1 hc3_2 hc3_3 hc3_4 hc3_5 hc3_6
  clear hf3
  clear hA0 hval0 hsz0 hval
  refine (Ob.Makes_calls a0 a1 a2 a3_0 a3_1 a3_2 a3_3 a3_4 a3_5 a3_6  W (u8_b w0).1 (u8_b w0).2 ⟨(u64_b w1).1, by have := (u64_b w1).2; omega⟩ (i64_b w3_0)).mono fun e W' ⟨he, bel⟩ => ?_
  subst he
  exact ⟨_, rfl, _, _, _, [], _, [], hW', trodAll_mk1 (shut_bool Try.underlying4 _), hargs W' bel, rfl, bel.frame _, fun h => by cases h⟩
theorem over : Rows.objMakesRow.holds Try.pinned (OpenSpec.ofChange Rows.objMakesSpec) :=
  OpenClaim.holds_of_wide 8 Try.f8 rfl rfl rfl rfl rfl rfl rfl ⟨rfl, rfl, rfl, rfl, rfl⟩ rfl rfl rfl rfl rfl (by kernel_rfl) Try.func8 (by kernel_rfl)
    (of_decide_eq_true (by kernel_rfl)) (by unfold Func.isWrapper; first | (rw [if_pos (by decide +kernel)]; kernel_rfl) | (rw [if_neg (by decide +kernel)]; exact ⟨rfl, rfl⟩))
    (fun os started H enc _ => lifted os started H enc)
end Go.Proofs.Ytfaffpmmjlddeaa.rowObjMakes
namespace Go.Proofs.Ytfaffpmmjlddeaa
theorem objMakes_holds : Rows.ObjMakesSaid := rowObjMakes.over
#print axioms objMakes_holds
end Go.Proofs.Ytfaffpmmjlddeaa
