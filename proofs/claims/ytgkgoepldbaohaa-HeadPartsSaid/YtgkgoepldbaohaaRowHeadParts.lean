/- HeadParts: its row, out of its contract. No condition. -/
import Derived.Test.YtgkgoepldbaohaaRows
import Derived.Test.YtgkgoepldbaohaaRowLib
import Derived.Test.YtgkgoepldbaohaaHeadParts
namespace Go.Proofs.Ytgkgoepldbaohaa.rowHeadParts
open Go.ChangeShapes Go.WideShapes Go.ChangeAt Go.RowKit Go.Deep Go.Proofs.Ytgkgoepldbaohaa.RL
set_option linter.unusedVariables false
theorem own : ownKnob Try.prog.godebug = none := by kernel_rfl
theorem laid : laidOutB Try.prog = true := by kernel_rfl
theorem rowed : (Try.f10.params.toList.all fun t => Try.prog.readableRec t && decide (t < Try.prog.types.size)) = true := by kernel_rfl
set_option maxRecDepth 100000 in
set_option maxHeartbeats 1000000 in
theorem lifted (os : Os) (started : os.Started) (H : Type) (enc : TypeId × Value → H) :
    ReturnsInHanded {} Try.checked os 10 .any (Rows.headPartsSpec.pre6 enc Try.prog Try.f10 Rows.headPartsRow.domain false) (Rows.headPartsSpec.post enc Try.prog Try.f10 false true false false) := by
  refine returnsInHanded_of_change_sized (C := Try.checked) own started (by kernel_rfl) Try.func10
    (ChangeSpec.witness6 (enc := enc) (C := Try.checked) false ⟨#[], #[.agg #[.int .i64 0, .int .i64 0, .int .i64 0, .int .i64 0, .bool false, .bool false, .bool false], .bool false, .bool false, .bool false, .int .u8 0], []⟩ 8 (by kernel_rfl) (by kernel_rfl) (by kernel_rfl) (by kernel_rfl)) ?_
  intro W base args ds gs before hval0 hW hcnd hsz0 _
  have hval : ∀ (j : Nat) t v, Try.f10.params[j]? = some t → args[j]? = some v → Value.okWide Try.prog W .any base t v := hval0
  have hW' := hW
  obtain ⟨p, q, hA0, hV, rfl, hfz, hnd⟩ := hW
  have hA : DataW.TrodAll enc Try.prog W 0 (fun _ => true) true Try.f10.params.toList args.toList ds p := hA0
  obtain ⟨rfl, rfl⟩ := trodVars_none hV
  have hargs : ∀ W', Below W.heap.size W W' → DataW.TrodAll enc Try.prog W' 0 (fun b => decide (b < W.heap.size)) true Try.f10.params.toList args.toList ds p :=
    fun W' hb => trodAll_below laid hb rowed hA fun x hx => hW'.lt x (List.mem_append.2 (.inl hx))
  rw [Try.params10] at hA hval
  obtain ⟨v0, vs0, d0, ds0, p0, q0, hargs0, rfl, rfl, h0, r0⟩ := trodAll_cons hA
  obtain ⟨v1, vs1, d1, ds1, p1, q1, rfl, rfl, rfl, h1, r1⟩ := trodAll_cons r0
  obtain ⟨v2, vs2, d2, ds2, p2, q2, rfl, rfl, rfl, h2, r2⟩ := trodAll_cons r1
  obtain ⟨v3, vs3, d3, ds3, p3, q3, rfl, rfl, rfl, h3, r3⟩ := trodAll_cons r2
  obtain ⟨v4, vs4, d4, ds4, p4, q4, rfl, rfl, rfl, h4, r4⟩ := trodAll_cons r3
  obtain ⟨rfl, rfl, rfl⟩ := trodAll_nil r4
  obtain rfl : args = #[v0, v1, v2, v3, v4] := by cases args; simp_all
  obtain ⟨cs0, m0, rfl, hl0, hf0⟩ := open_agg Try.underlying33 (by kernel_rfl) (by kernel_rfl) (hval 0 33 v0 rfl rfl) h0
  obtain ⟨c0_0, y0_0, hc0_0, hy0_0⟩ := hf0 0 _ rfl
  obtain ⟨a0_0, rfl, w0_0⟩ := field_int Try.underlying3 hy0_0
  obtain ⟨c0_1, y0_1, hc0_1, hy0_1⟩ := hf0 1 _ rfl
  obtain ⟨a0_1, rfl, w0_1⟩ := field_int Try.underlying3 hy0_1
  obtain ⟨c0_2, y0_2, hc0_2, hy0_2⟩ := hf0 2 _ rfl
  obtain ⟨a0_2, rfl, w0_2⟩ := field_int Try.underlying3 hy0_2
  obtain ⟨c0_3, y0_3, hc0_3, hy0_3⟩ := hf0 3 _ rfl
  obtain ⟨a0_3, rfl, w0_3⟩ := field_int Try.underlying3 hy0_3
  obtain ⟨c0_4, y0_4, hc0_4, hy0_4⟩ := hf0 4 _ rfl
  obtain ⟨a0_4, rfl⟩ := field_bool Try.underlying4 hy0_4
  obtain ⟨c0_5, y0_5, hc0_5, hy0_5⟩ := hf0 5 _ rfl
  obtain ⟨a0_5, rfl⟩ := field_bool Try.underlying4 hy0_5
  obtain ⟨c0_6, y0_6, hc0_6, hy0_6⟩ := hf0 6 _ rfl
  obtain ⟨a0_6, rfl⟩ := field_bool Try.underlying4 hy0_6
  obtain rfl : cs0 = [.int .i64 a0_0, .int .i64 a0_1, .int .i64 a0_2, .int .i64 a0_3, .bool a0_4, .bool a0_5, .bool a0_6] := list_of_7 hl0 hc0_0 hc0_1 hc0_2 hc0_3 hc0_4 hc0_5 hc0_6
  clear hf0
  obtain ⟨a1, rfl, rfl, rfl⟩ := open_bool Try.underlying4 (hval 1 4 v1 rfl rfl) h1
  obtain ⟨a2, rfl, rfl, rfl⟩ := open_bool Try.underlying4 (hval 2 4 v2 rfl rfl) h2
  obtain ⟨a3, rfl, rfl, rfl⟩ := open_bool Try.underlying4 (hval 3 4 v3 rfl rfl) h3
  obtain ⟨a4, rfl, rfl, rfl, w4⟩ := open_int Try.underlying5 (hval 4 5 v4 rfl rfl) h4
  clear hA0 hval0 hsz0 hval
  refine (Hea.Parts_calls a0_0 a0_1 a0_2 a0_3 a0_4 a0_5 a0_6 a1 a2 a3 a4 W (u8_b w4).1 (u8_b w4).2).mono fun e W' ⟨he, bel⟩ => ?_
  subst he
  exact ⟨_, rfl, _, _, _, [], _, [], hW', trodAll_mk1 (shut_bool Try.underlying4 _), hargs W' bel, rfl, bel.frame _, fun h => by cases h⟩
theorem over : Rows.headPartsRow.holds Try.pinned (OpenSpec.ofChange Rows.headPartsSpec) :=
  OpenClaim.holds_of_wide 10 Try.f10 rfl rfl rfl rfl rfl rfl rfl ⟨rfl, rfl, rfl, rfl, rfl⟩ rfl rfl rfl rfl rfl (by kernel_rfl) Try.func10 (by kernel_rfl)
    (of_decide_eq_true (by kernel_rfl)) (by unfold Func.isWrapper; first | (rw [if_pos (by decide +kernel)]; kernel_rfl) | (rw [if_neg (by decide +kernel)]; exact ⟨rfl, rfl⟩))
    (fun os started H enc _ => lifted os started H enc)
end Go.Proofs.Ytgkgoepldbaohaa.rowHeadParts
namespace Go.Proofs.Ytgkgoepldbaohaa
theorem headParts_holds : Rows.HeadPartsSaid := rowHeadParts.over
#print axioms headParts_holds
end Go.Proofs.Ytgkgoepldbaohaa
