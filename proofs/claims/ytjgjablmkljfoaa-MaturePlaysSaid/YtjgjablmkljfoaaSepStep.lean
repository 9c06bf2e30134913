/- Append to a row that is a part, as one step of a region that draws its order. No condition. -/
import Derived.Test.YtjgjablmkljfoaaSep
import Derived.Deep.RegionHeld3
set_option linter.unusedVariables false
set_option linter.unusedSimpArgs false
namespace Go.Proofs.Ytjgjablmkljfoaa.W
open Go.RowKit
section
variable {W w : World} {oo : Nat → Prop} {l : List Pr}
theorem step_append_sep {G : Program} {ops : Array Oper} {o : Oper} {a : Act} {K : Act → World → Prop} {Q : Exit → Act → World → Prop} {E : Prop} (hgd : o.guard = none) (s x : Operand) (t : TypeId)
    (ho : o.op = .call { callee := .builtin .append, args := #[s, x], argTypes := #[t, t] })
    (e : TypeId) (i : TypeInfo) (z : Value) (bytes : Nat) (ht : G.underlying t = some (.slice e)) (hi : G.info? e = some i) (hz : i.zero = some z) (hs : i.size = 1) (hby : i.bytes = bytes) (hzc : z.cells.size = 1)
    (A : Option Addr) (n c : Nat) (xs : List Value) (hsv : a.eval s = .slice A n c) (B : Nat) (u : Value) (hxv : a.eval x = .slice (some ⟨B, 0, none⟩) 1 1)
    (h : SepO W oo w (l ++ [rowP e A n c xs])) (hcell : w.cell? ⟨B, 0, none⟩ = some u) (h1 : u.oneCell' = true)
    (h63 : n + 1 ≤ 9223372036854775807) (hbytes : (n + 1) * bytes ≤ 140737488355328)
    (hw : ∀ A' c' w', SepO W oo w' (l ++ [rowP e A' (n + 1) c' (xs ++ [u])]) → K (a.put o.dst (.slice A' (n + 1) c')) w') :
    if Region.wanted o (yielded ops a.tmps) = true then Oper.wp G o a w K Q else E := by
  rw [if_pos (by simp [Region.wanted, hgd])]
  obtain ⟨ok, hq, _, hup⟩ := h.open_ l.length at_last
  obtain ⟨A', c', w', hr, h2, h3⟩ := run_append_q (P := G) t o.type e i z bytes ht hi hz hs hby hzc hq B u hcell h1 h63 hbytes
  unfold Oper.wp execOp
  simp only [ho, resolve, invoke, builtin, Sem.run_bind, Sem.run_pure, Result.andThen_ok, List.map_toArray, List.map_cons, List.map_nil, hsv, hxv, hr]
  have h9 := hup w' (rowP e A' (n + 1) c' (xs ++ [u])) h2 h3
  rw [List.set_append_right _ _ (Nat.le_refl _), Nat.sub_self, List.set_cons_zero] at h9
  exact hw _ _ _ h9
end
end Go.Proofs.Ytjgjablmkljfoaa.W
