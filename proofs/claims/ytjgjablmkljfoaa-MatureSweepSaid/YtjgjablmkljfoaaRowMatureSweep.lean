/- MatureSweep: its row, out of its contract. No condition. -/
import Derived.Test.YtjgjablmkljfoaaRows
import Derived.Test.YtjgjablmkljfoaaRowLib
import Derived.Test.YtjgjablmkljfoaaMatX
import Derived.Test.YtjgjablmkljfoaaRowSL
namespace Go.Proofs.Ytjgjablmkljfoaa.rowMatureSweep
open Go.ChangeShapes Go.WideShapes Go.ChangeAt Go.RowKit Go.Deep Go.Proofs.Ytjgjablmkljfoaa.RL
set_option linter.unusedVariables false
theorem own : ownKnob Try.prog.godebug = none := by kernel_rfl
theorem laid : laidOutB Try.prog = true := by kernel_rfl
theorem rowed : (Try.f5.params.toList.all fun t => Try.prog.readableRec t && decide (t < Try.prog.types.size)) = true := by kernel_rfl
set_option maxRecDepth 100000 in
set_option maxHeartbeats 1000000 in
theorem lifted (os : Os) (started : os.Started) (H : Type) (enc : TypeId × Value → H) :
    ReturnsInHanded {} Try.checked os 5 .any (Rows.matureSweepSpec.pre6 enc Try.prog Try.f5 Rows.matureSweepRow.domain false) (Rows.matureSweepSpec.post enc Try.prog Try.f5 false true false false) := by
  refine returnsInHanded_of_change_sized (C := Try.checked) own started (by kernel_rfl) Try.func5
    (ChangeSpec.witness6 (enc := enc) (C := Try.checked) false ⟨#[], #[.int .u8 0, .int .u8 0, .slice none 0 0, .slice none 0 0], []⟩ 8 (by kernel_rfl) (by kernel_rfl) (by kernel_rfl) (by kernel_rfl)) ?_
  intro W base args ds gs before hval0 hW hcnd hsz0 _
  have hval : ∀ (j : Nat) t v, Try.f5.params[j]? = some t → args[j]? = some v → Value.okWide Try.prog W .any base t v := hval0
  have hW' := hW
  obtain ⟨p, q, hA0, hV, rfl, hfz, hnd⟩ := hW
  have hA : DataW.TrodAll enc Try.prog W 0 (fun _ => true) true Try.f5.params.toList args.toList ds p := hA0
  obtain ⟨rfl, rfl⟩ := trodVars_none hV
  have hargs : ∀ W', Below W.heap.size W W' → DataW.TrodAll enc Try.prog W' 0 (fun b => decide (b < W.heap.size)) true Try.f5.params.toList args.toList ds p :=
    fun W' hb => trodAll_below laid hb rowed hA fun x hx => hW'.lt x (List.mem_append.2 (.inl hx))
  rw [Try.params5] at hA hval
  obtain ⟨v0, vs0, d0, ds0, p0, q0, hargs0, rfl, rfl, h0, r0⟩ := trodAll_cons hA
  obtain ⟨v1, vs1, d1, ds1, p1, q1, rfl, rfl, rfl, h1, r1⟩ := trodAll_cons r0
  obtain ⟨v2, vs2, d2, ds2, p2, q2, rfl, rfl, rfl, h2, r2⟩ := trodAll_cons r1
  obtain ⟨v3, vs3, d3, ds3, p3, q3, rfl, rfl, rfl, h3, r3⟩ := trodAll_cons r2
  obtain ⟨rfl, rfl, rfl⟩ := trodAll_nil r3
  obtain rfl : args = #[v0, v1, v2, v3] := by cases args; simp_all
  obtain ⟨a0, rfl, rfl, rfl, w0⟩ := open_int Try.underlying5 (hval 0 5 v0 rfl rfl) h0
  obtain ⟨a1, rfl, rfl, rfl, w1⟩ := open_int Try.underlying5 (hval 1 5 v1 rfl rfl) h1
  obtain ⟨a2, s2, w2⟩ := open_SL Try.underlying22 Try.underlying28 (by kernel_rfl) (hval 2 22 v2 rfl rfl) h2
  obtain ⟨a3, s3, w3⟩ := open_SL Try.underlying22 Try.underlying28 (by kernel_rfl) (hval 3 22 v3 rfl rfl) h3
  clear hA0 hval0 hsz0 hval
  refine (Ma.Sweep_calls a0 a1 W (u8_b w0) (u8_b w1) s2 (fun x hx => u16_b (w2 x hx)) s3 (fun x hx => u16_b (w3 x hx))).mono fun e W' ⟨he, bel⟩ => ?_
  subst he
  exact ⟨_, rfl, _, _, _, [], _, [], hW', trodAll_mk1 (shut_bool Try.underlying4 _), hargs W' bel, rfl, bel.frame _, fun h => by cases h⟩
theorem over : Rows.matureSweepRow.holds Try.pinned (OpenSpec.ofChange Rows.matureSweepSpec) :=
  OpenClaim.holds_of_wide 5 Try.f5 rfl rfl rfl rfl rfl rfl rfl ⟨rfl, rfl, rfl, rfl, rfl⟩ rfl rfl rfl rfl rfl (by kernel_rfl) Try.func5 (by kernel_rfl)
    (of_decide_eq_true (by kernel_rfl)) (by unfold Func.isWrapper; first | (rw [if_pos (by decide +kernel)]; kernel_rfl) | (rw [if_neg (by decide +kernel)]; exact ⟨rfl, rfl⟩))
    (fun os started H enc _ => lifted os started H enc)
end Go.Proofs.Ytjgjablmkljfoaa.rowMatureSweep
namespace Go.Proofs.Ytjgjablmkljfoaa
theorem matureSweep_holds : Rows.MatureSweepSaid := rowMatureSweep.over
#print axioms matureSweep_holds
end Go.Proofs.Ytjgjablmkljfoaa
