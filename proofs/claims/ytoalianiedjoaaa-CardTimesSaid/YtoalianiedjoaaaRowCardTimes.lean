/- CardTimes: its row, out of its contract. No condition. -/
import Derived.Test.YtoalianiedjoaaaRows
import Derived.Test.YtoalianiedjoaaaRowLib
import Derived.Test.YtoalianiedjoaaaCardTimes
import Derived.Test.YtoalianiedjoaaaRowSL
namespace Go.Proofs.Ytoalianiedjoaaa.rowCardTimes
open Go.ChangeShapes Go.WideShapes Go.ChangeAt Go.RowKit Go.Deep Go.Proofs.Ytoalianiedjoaaa.RL
set_option linter.unusedVariables false
theorem own : ownKnob Try.prog.godebug = none := by kernel_rfl
theorem laid : laidOutB Try.prog = true := by kernel_rfl
theorem rowed : (Try.f11.params.toList.all fun t => Try.prog.readableRec t && decide (t < Try.prog.types.size)) = true := by kernel_rfl
set_option maxRecDepth 100000 in
set_option maxHeartbeats 1000000 in
theorem lifted (os : Os) (started : os.Started) (H : Type) (enc : TypeId × Value → H) :
    ReturnsInHanded {} Try.checked os 11 .any (Rows.cardTimesSpec.pre6 enc Try.prog Try.f11 Rows.cardTimesRow.domain false) (Rows.cardTimesSpec.post enc Try.prog Try.f11 false true false false) := by
  refine returnsInHanded_of_change_sized (C := Try.checked) own started (by kernel_rfl) Try.func11
    (ChangeSpec.witness6 (enc := enc) (C := Try.checked) false ⟨#[], #[.slice none 0 0], []⟩ 8 (by kernel_rfl) (by kernel_rfl) (by kernel_rfl) (by kernel_rfl)) ?_
  intro W base args ds gs before hval0 hW hcnd hsz0 _
  have hval : ∀ (j : Nat) t v, Try.f11.params[j]? = some t → args[j]? = some v → Value.okWide Try.prog W .any base t v := hval0
  have hW' := hW
  obtain ⟨p, q, hA0, hV, rfl, hfz, hnd⟩ := hW
  have hA : DataW.TrodAll enc Try.prog W 0 (fun _ => true) true Try.f11.params.toList args.toList ds p := hA0
  obtain ⟨rfl, rfl⟩ := trodVars_none hV
  have hargs : ∀ W', Below W.heap.size W W' → DataW.TrodAll enc Try.prog W' 0 (fun b => decide (b < W.heap.size)) true Try.f11.params.toList args.toList ds p :=
    fun W' hb => trodAll_below laid hb rowed hA fun x hx => hW'.lt x (List.mem_append.2 (.inl hx))
  rw [Try.params11] at hA hval
  obtain ⟨v0, vs0, d0, ds0, p0, q0, hargs0, rfl, rfl, h0, r0⟩ := trodAll_cons hA
  obtain ⟨rfl, rfl, rfl⟩ := trodAll_nil r0
  obtain rfl : args = #[v0] := by cases args; simp_all
  obtain ⟨a0, s0, w0⟩ := open_SL Try.underlying51 Try.underlying29 (by kernel_rfl) (hval 0 51 v0 rfl rfl) h0
  clear hA0 hval0 hsz0 hval
  refine (Cd.Times_calls W s0 (fun x hx => u16_b (w0 x hx))).mono fun e W' ⟨he, bel⟩ => ?_
  subst he
  exact ⟨_, rfl, _, _, _, [], _, [], hW', trodAll_mk1 (shut_bool Try.underlying4 _), hargs W' bel, rfl, bel.frame _, fun h => by cases h⟩
theorem over : Rows.cardTimesRow.holds Try.pinned (OpenSpec.ofChange Rows.cardTimesSpec) :=
  OpenClaim.holds_of_wide 11 Try.f11 rfl rfl rfl rfl rfl rfl rfl ⟨rfl, rfl, rfl, rfl, rfl⟩ rfl rfl rfl rfl rfl (by kernel_rfl) Try.func11 (by kernel_rfl)
    (of_decide_eq_true (by kernel_rfl)) (by unfold Func.isWrapper; first | (rw [if_pos (by decide +kernel)]; kernel_rfl) | (rw [if_neg (by decide +kernel)]; exact ⟨rfl, rfl⟩))
    (fun os started H enc _ => lifted os started H enc)
end Go.Proofs.Ytoalianiedjoaaa.rowCardTimes
namespace Go.Proofs.Ytoalianiedjoaaa
theorem cardTimes_holds : Rows.CardTimesSaid := rowCardTimes.over
#print axioms cardTimes_holds
end Go.Proofs.Ytoalianiedjoaaa
