/- ObjApart: its row, out of its contract. No condition. -/
import Derived.Test.YtfaffpmmjlddeaaRows
import Derived.Test.YtfaffpmmjlddeaaRowLib
import Derived.Test.YtfaffpmmjlddeaaObjApart
import Derived.Test.YtfaffpmmjlddeaaRowSL
namespace Go.Proofs.Ytfaffpmmjlddeaa.rowObjApart
open Go.ChangeShapes Go.WideShapes Go.ChangeAt Go.RowKit Go.Deep Go.Proofs.Ytfaffpmmjlddeaa.RL
set_option linter.unusedVariables false
theorem own : ownKnob Try.prog.godebug = none := by kernel_rfl
theorem laid : laidOutB Try.prog = true := by kernel_rfl
theorem rowed : (Try.f12.params.toList.all fun t => Try.prog.readableRec t && decide (t < Try.prog.types.size)) = true := by kernel_rfl
set_option maxRecDepth 100000 in
set_option maxHeartbeats 1000000 in
theorem lifted (os : Os) (started : os.Started) (H : Type) (enc : TypeId × Value → H) :
    ReturnsInHanded {} Try.checked os 12 .any (Rows.objApartSpec.pre6 enc Try.prog Try.f12 Rows.objApartRow.domain false) (Rows.objApartSpec.post enc Try.prog Try.f12 false true false false) := by
  refine returnsInHanded_of_change_sized (C := Try.checked) own started (by kernel_rfl) Try.func12
    (ChangeSpec.witness6 (enc := enc) (C := Try.checked) false ⟨#[], #[.agg #[.int .i64 0, .int .i64 0, .int .i64 0, .int .i64 0, .bool false, .bool false, .bool false], .agg #[.int .i64 0, .int .i64 0, .int .i64 0, .int .i64 0, .bool false, .bool false, .bool false], .slice none 0 0], []⟩ 8 (by kernel_rfl) (by kernel_rfl) (by kernel_rfl) (by kernel_rfl)) ?_
  intro W base args ds gs before hval0 hW hcnd hsz0 _
  have hval : ∀ (j : Nat) t v, Try.f12.params[j]? = some t → args[j]? = some v → Value.okWide Try.prog W .any base t v := hval0
  have hW' := hW
  obtain ⟨p, q, hA0, hV, rfl, hfz, hnd⟩ := hW
  have hA : DataW.TrodAll enc Try.prog W 0 (fun _ => true) true Try.f12.params.toList args.toList ds p := hA0
  obtain ⟨rfl, rfl⟩ := trodVars_none hV
  have hargs : ∀ W', Below W.heap.size W W' → DataW.TrodAll enc Try.prog W' 0 (fun b => decide (b < W.heap.size)) true Try.f12.params.toList args.toList ds p :=
    fun W' hb => trodAll_below laid hb rowed hA fun x hx => hW'.lt x (List.mem_append.2 (.inl hx))
  rw [Try.params12] at hA hval
  obtain ⟨v0, vs0, d0, ds0, p0, q0, hargs0, rfl, rfl, h0, r0⟩ := trodAll_cons hA
  obtain ⟨v1, vs1, d1, ds1, p1, q1, rfl, rfl, rfl, h1, r1⟩ := trodAll_cons r0
  obtain ⟨v2, vs2, d2, ds2, p2, q2, rfl, rfl, rfl, h2, r2⟩ := trodAll_cons r1
  obtain ⟨rfl, rfl, rfl⟩ := trodAll_nil r2
  obtain rfl : args = #[v0, v1, v2] := by cases args; simp_all
  obtain ⟨cs0, m0, rfl, hl0, hf0⟩ := open_agg Try.underlying44 (by kernel_rfl) (by kernel_rfl) (hval 0 44 v0 rfl rfl) h0
  obtain ⟨c0_0, y0_0, hc0_0, hy0_0⟩ := hf0 0 _ rfl
  obtain ⟨a0_0, rfl, w0_0⟩ := field_int Try.underlying3 hy0_0
  obtain ⟨c0_1, y0_1, hc0_1, hy0_1⟩ := hf0 1 _ rfl
  obtain ⟨a0_1, rfl, w0_1⟩ := field_int Try.underlying3 hy0_1
  obtain ⟨c0_2, y0_2, hc0_2, hy0_2⟩ := hf0 2 _ rfl
  obtain ⟨a0_2, rfl, w0_2⟩ := field_int Try.underlying3 hy0_2
  obtain ⟨c0_3, y0_3, hc0_3, hy0_3⟩ := hf0 3 _ rfl
  obtain ⟨a0_3, rfl, w0_3⟩ := field_int Try.underlying3 hy0_3
  obtain ⟨c0_4, y0_4, hc0_4, hy0_4⟩ := hf0 4 _ rfl
  obtain ⟨a0_4, rfl⟩ := field_bool Try.underlying4 hy0_4
  obtain ⟨c0_5, y0_5, hc0_5, hy0_5⟩ := hf0 5 _ rfl
  obtain ⟨a0_5, rfl⟩ := field_bool Try.underlying4 hy0_5
  obtain ⟨c0_6, y0_6, hc0_6, hy0_6⟩ := hf0 6 _ rfl
  obtain ⟨a0_6, rfl⟩ := field_bool Try.underlying4 hy0_6
  obtain rfl : cs0 = [.int .i64 a0_0, .int .i64 a0_1, .int .i64 a0_2, .int .i64 a0_3, .bool a0_4, .bool a0_5, .bool a0_6] := list_of_7 hl0 hc0_0 hc0_1 hc0_2 hc0_3 hc0_4 hc0_5 hc0_6
  clear hf0
  obtain ⟨cs1, m1, rfl, hl1, hf1⟩ := open_agg Try.underlying44 (by kernel_rfl) (by kernel_rfl) (hval 1 44 v1 rfl rfl) h1
  obtain ⟨c1_0, y1_0, hc1_0, hy1_0⟩ := hf1 0 _ rfl
  obtain ⟨a1_0, rfl, w1_0⟩ := field_int Try.underlying3 hy1_0
  obtain ⟨c1_1, y1_1, hc1_1, hy1_1⟩ := hf1 1 _ rfl
  obtain ⟨a1_1, rfl, w1_1⟩ := field_int Try.underlying3 hy1_1
  obtain ⟨c1_2, y1_2, hc1_2, hy1_2⟩ := hf1 2 _ rfl
  obtain ⟨a1_2, rfl, w1_2⟩ := field_int Try.underlying3 hy1_2
  obtain ⟨c1_3, y1_3, hc1_3, hy1_3⟩ := hf1 3 _ rfl
  obtain ⟨a1_3, rfl, w1_3⟩ := field_int Try.underlying3 hy1_3
  obtain ⟨c1_4, y1_4, hc1_4, hy1_4⟩ := hf1 4 _ rfl
  obtain ⟨a1_4, rfl⟩ := field_bool Try.underlying4 hy1_4
  obtain ⟨c1_5, y1_5, hc1_5, hy1_5⟩ := hf1 5 _ rfl
  obtain ⟨a1_5, rfl⟩ := field_bool Try.underlying4 hy1_5
  obtain ⟨c1_6, y1_6, hc1_6, hy1_6⟩ := hf1 6 _ rfl
  obtain ⟨a1_6, rfl⟩ := field_bool Try.underlying4 hy1_6
  obtain rfl : cs1 = [.int .i64 a1_0, .int .i64 a1_1, .int .i64 a1_2, .int .i64 a1_3, .bool a1_4, .bool a1_5, .bool a1_6] := list_of_7 hl1 hc1_0 hc1_1 hc1_2 hc1_3 hc1_4 hc1_5 hc1_6
  clear hf1
  obtain ⟨a2, s2, w2⟩ := open_SL Try.underlying35 Try.underlying24 (by kernel_rfl) (hval 2 35 v2 rfl rfl) h2
  clear hA0 hval0 hsz0 hval
  refine (Ob.Apart_calls a0_0 a0_1 a0_2 a0_3 a0_4 a0_5 a0_6 a1_0 a1_1 a1_2 a1_3 a1_4 a1_5 a1_6  W s2 (fun x hx => ⟨(u64_b (w2 x hx)).1, by have := (u64_b (w2 x hx)).2; omega⟩)).mono fun e W' ⟨he, bel⟩ => ?_
  subst he
  exact ⟨_, rfl, _, _, _, [], _, [], hW', trodAll_mk1 (shut_bool Try.underlying4 _), hargs W' bel, rfl, bel.frame _, fun h => by cases h⟩
theorem over : Rows.objApartRow.holds Try.pinned (OpenSpec.ofChange Rows.objApartSpec) :=
  OpenClaim.holds_of_wide 12 Try.f12 rfl rfl rfl rfl rfl rfl rfl ⟨rfl, rfl, rfl, rfl, rfl⟩ rfl rfl rfl rfl rfl (by kernel_rfl) Try.func12 (by kernel_rfl)
    (of_decide_eq_true (by kernel_rfl)) (by unfold Func.isWrapper; first | (rw [if_pos (by decide +kernel)]; kernel_rfl) | (rw [if_neg (by decide +kernel)]; exact ⟨rfl, rfl⟩))
    (fun os started H enc _ => lifted os started H enc)
end Go.Proofs.Ytfaffpmmjlddeaa.rowObjApart
namespace Go.Proofs.Ytfaffpmmjlddeaa
theorem objApart_holds : Rows.ObjApartSaid := rowObjApart.over
#print axioms objApart_holds
end Go.Proofs.Ytfaffpmmjlddeaa
