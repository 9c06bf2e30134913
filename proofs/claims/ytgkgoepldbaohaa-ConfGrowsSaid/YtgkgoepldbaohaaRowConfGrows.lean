/- ConfGrows: its row, out of its contract. No condition. -/
import Derived.Test.YtgkgoepldbaohaaRows
import Derived.Test.YtgkgoepldbaohaaRowLib
import Derived.Test.YtgkgoepldbaohaaConfGrows
namespace Go.Proofs.Ytgkgoepldbaohaa.rowConfGrows
open Go.ChangeShapes Go.WideShapes Go.ChangeAt Go.RowKit Go.Deep Go.Proofs.Ytgkgoepldbaohaa.RL
set_option linter.unusedVariables false
theorem own : ownKnob Try.prog.godebug = none := by kernel_rfl
theorem laid : laidOutB Try.prog = true := by kernel_rfl
theorem rowed : (Try.f14.params.toList.all fun t => Try.prog.readableRec t && decide (t < Try.prog.types.size)) = true := by kernel_rfl
set_option maxRecDepth 100000 in
set_option maxHeartbeats 1000000 in
theorem lifted (os : Os) (started : os.Started) (H : Type) (enc : TypeId × Value → H) :
    ReturnsInHanded {} Try.checked os 14 .any (Rows.confGrowsSpec.pre6 enc Try.prog Try.f14 Rows.confGrowsRow.domain false) (Rows.confGrowsSpec.post enc Try.prog Try.f14 false true false false) := by
  refine returnsInHanded_of_change_sized (C := Try.checked) own started (by kernel_rfl) Try.func14
    (ChangeSpec.witness6 (enc := enc) (C := Try.checked) false ⟨#[], #[.agg #[.int .i64 0, .int .i64 0, .int .i64 0, .int .i64 0, .int .i64 0, .int .i64 0, .int .i64 0, .int .i64 0, .int .i64 0, .int .i64 0, .int .i64 0, .int .i64 0, .int .i64 0], .int .i64 0, .int .i64 0, .int .u8 0, .int .u8 0], []⟩ 8 (by kernel_rfl) (by kernel_rfl) (by kernel_rfl) (by kernel_rfl)) ?_
  intro W base args ds gs before hval0 hW hcnd hsz0 _
  have hval : ∀ (j : Nat) t v, Try.f14.params[j]? = some t → args[j]? = some v → Value.okWide Try.prog W .any base t v := hval0
  have hW' := hW
  obtain ⟨p, q, hA0, hV, rfl, hfz, hnd⟩ := hW
  have hA : DataW.TrodAll enc Try.prog W 0 (fun _ => true) true Try.f14.params.toList args.toList ds p := hA0
  obtain ⟨rfl, rfl⟩ := trodVars_none hV
  have hargs : ∀ W', Below W.heap.size W W' → DataW.TrodAll enc Try.prog W' 0 (fun b => decide (b < W.heap.size)) true Try.f14.params.toList args.toList ds p :=
    fun W' hb => trodAll_below laid hb rowed hA fun x hx => hW'.lt x (List.mem_append.2 (.inl hx))
  rw [Try.params14] at hA hval
  obtain ⟨v0, vs0, d0, ds0, p0, q0, hargs0, rfl, rfl, h0, r0⟩ := trodAll_cons hA
  obtain ⟨v1, vs1, d1, ds1, p1, q1, rfl, rfl, rfl, h1, r1⟩ := trodAll_cons r0
  obtain ⟨v2, vs2, d2, ds2, p2, q2, rfl, rfl, rfl, h2, r2⟩ := trodAll_cons r1
  obtain ⟨v3, vs3, d3, ds3, p3, q3, rfl, rfl, rfl, h3, r3⟩ := trodAll_cons r2
  obtain ⟨v4, vs4, d4, ds4, p4, q4, rfl, rfl, rfl, h4, r4⟩ := trodAll_cons r3
  obtain ⟨rfl, rfl, rfl⟩ := trodAll_nil r4
  obtain rfl : args = #[v0, v1, v2, v3, v4] := by cases args; simp_all
  obtain ⟨cs0, m0, rfl, hl0, hf0⟩ := open_agg Try.underlying23 (by kernel_rfl) (by kernel_rfl) (hval 0 23 v0 rfl rfl) h0
  obtain ⟨c0_0, y0_0, hc0_0, hy0_0⟩ := hf0 0 _ rfl
  obtain ⟨a0_0, rfl, w0_0⟩ := field_int Try.underlying3 hy0_0
  obtain ⟨c0_1, y0_1, hc0_1, hy0_1⟩ := hf0 1 _ rfl
  obtain ⟨a0_1, rfl, w0_1⟩ := field_int Try.underlying3 hy0_1
  obtain ⟨c0_2, y0_2, hc0_2, hy0_2⟩ := hf0 2 _ rfl
  obtain ⟨a0_2, rfl, w0_2⟩ := field_int Try.underlying3 hy0_2
  obtain ⟨c0_3, y0_3, hc0_3, hy0_3⟩ := hf0 3 _ rfl
  obtain ⟨a0_3, rfl, w0_3⟩ := field_int Try.underlying3 hy0_3
  obtain ⟨c0_4, y0_4, hc0_4, hy0_4⟩ := hf0 4 _ rfl
  obtain ⟨a0_4, rfl, w0_4⟩ := field_int Try.underlying3 hy0_4
  obtain ⟨c0_5, y0_5, hc0_5, hy0_5⟩ := hf0 5 _ rfl
  obtain ⟨a0_5, rfl, w0_5⟩ := field_int Try.underlying3 hy0_5
  obtain ⟨c0_6, y0_6, hc0_6, hy0_6⟩ := hf0 6 _ rfl
  obtain ⟨a0_6, rfl, w0_6⟩ := field_int Try.underlying3 hy0_6
  obtain ⟨c0_7, y0_7, hc0_7, hy0_7⟩ := hf0 7 _ rfl
  obtain ⟨a0_7, rfl, w0_7⟩ := field_int Try.underlying3 hy0_7
  obtain ⟨c0_8, y0_8, hc0_8, hy0_8⟩ := hf0 8 _ rfl
  obtain ⟨a0_8, rfl, w0_8⟩ := field_int Try.underlying3 hy0_8
  obtain ⟨c0_9, y0_9, hc0_9, hy0_9⟩ := hf0 9 _ rfl
  obtain ⟨a0_9, rfl, w0_9⟩ := field_int Try.underlying3 hy0_9
  obtain ⟨c0_10, y0_10, hc0_10, hy0_10⟩ := hf0 10 _ rfl
  obtain ⟨a0_10, rfl, w0_10⟩ := field_int Try.underlying3 hy0_10
  obtain ⟨c0_11, y0_11, hc0_11, hy0_11⟩ := hf0 11 _ rfl
  obtain ⟨a0_11, rfl, w0_11⟩ := field_int Try.underlying3 hy0_11
  obtain ⟨c0_12, y0_12, hc0_12, hy0_12⟩ := hf0 12 _ rfl
  obtain ⟨a0_12, rfl, w0_12⟩ := field_int Try.underlying3 hy0_12
  obtain rfl : cs0 = [.int .i64 a0_0, .int .i64 a0_1, .int .i64 a0_2, .int .i64 a0_3, .int .i64 a0_4, .int .i64 a0_5, .int .i64 a0_6, .int .i64 a0_7, .int .i64 a0_8, .int .i64 a0_9, .int .i64 a0_10, .int .i64 a0_11, .int .i64 a0_12] := list_of_13 hl0 hc0_0 hc0_1 hc0_2 hc0_3 hc0_4 hc0_5 hc0_6 hc0_7 hc0_8 hc0_9 hc0_10 hc0_11 hc0_12
  clear hf0
  obtain ⟨a1, rfl, rfl, rfl, w1⟩ := open_int Try.underlying3 (hval 1 3 v1 rfl rfl) h1
  obtain ⟨a2, rfl, rfl, rfl, w2⟩ := open_int Try.underlying3 (hval 2 3 v2 rfl rfl) h2
  obtain ⟨a3, rfl, rfl, rfl, w3⟩ := open_int Try.underlying5 (hval 3 5 v3 rfl rfl) h3
  obtain ⟨a4, rfl, rfl, rfl, w4⟩ := open_int Try.underlying5 (hval 4 5 v4 rfl rfl) h4
  clear hA0 hval0 hsz0 hval
  refine (Cgr.Grows_calls a0_0 a0_1 a0_2 a0_3 a0_4 a0_5 a0_6 a0_7 a0_8 a0_9 a0_10 a0_11 a0_12  a1 a2 a3 a4 W (i64_b w0_8) (u8_b w3).1 (u8_b w3).2 (u8_b w4).1 (u8_b w4).2).mono fun e W' ⟨he, bel⟩ => ?_
  subst he
  exact ⟨_, rfl, _, _, _, [], _, [], hW', trodAll_mk1 (shut_bool Try.underlying4 _), hargs W' bel, rfl, bel.frame _, fun h => by cases h⟩
theorem over : Rows.confGrowsRow.holds Try.pinned (OpenSpec.ofChange Rows.confGrowsSpec) :=
  OpenClaim.holds_of_wide 14 Try.f14 rfl rfl rfl rfl rfl rfl rfl ⟨rfl, rfl, rfl, rfl, rfl⟩ rfl rfl rfl rfl rfl (by kernel_rfl) Try.func14 (by kernel_rfl)
    (of_decide_eq_true (by kernel_rfl)) (by unfold Func.isWrapper; first | (rw [if_pos (by decide +kernel)]; kernel_rfl) | (rw [if_neg (by decide +kernel)]; exact ⟨rfl, rfl⟩))
    (fun os started H enc _ => lifted os started H enc)
end Go.Proofs.Ytgkgoepldbaohaa.rowConfGrows
namespace Go.Proofs.Ytgkgoepldbaohaa
theorem confGrows_holds : Rows.ConfGrowsSaid := rowConfGrows.over
#print axioms confGrows_holds
end Go.Proofs.Ytgkgoepldbaohaa
