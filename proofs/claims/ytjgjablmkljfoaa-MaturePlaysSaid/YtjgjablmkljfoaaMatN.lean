/- Contracts of package mature: New. No condition. -/
import Derived.Test.YtjgjablmkljfoaaMatK
set_option linter.unusedVariables false
set_option linter.unusedSimpArgs false
namespace Go.Proofs.Ytjgjablmkljfoaa.Ma
open Go.RowKit Go.Proofs.Ytjgjablmkljfoaa.W Go.Proofs.Ytjgjablmkljfoaa.Cl

theorem info_page : (Try.prog.info? 57).map (fun i => (i.zero, i.size, i.bytes)) = some (some (.agg #[.int .i64 0, .int .i64 0, .slice none 0 0, .bool false]), 4, 48) := by kernel_rfl
theorem pages_cells (P : Nat) : madeCells (Value.agg #[.int .i64 0, .int .i64 0, .slice none 0 0, .bool false]).cells (P * 4) = (pcs (List.replicate P (fre, 0))).toArray := by
  apply Array.ext
  · simp [madeCells, pcs_len]; omega
  · intro k h1 h2
    have hk : k < P * 4 := by simpa [madeCells] using h1
    have hp : (List.replicate P (fre, 0))[k / 4]? = some (fre, 0) := by rw [List.getElem?_replicate, if_pos (by omega)]
    have hg := pcs_get hp (j := k % 4) (by omega)
    rw [show k / 4 * 4 + k % 4 = k from by omega] at hg
    apply Option.some.inj
    rw [← Array.getElem?_eq_getElem h2, List.getElem?_toArray, hg]
    rcases (by omega : k % 4 = 0 ∨ k % 4 = 1 ∨ k % 4 = 2 ∨ k % 4 = 3) with h | h | h | h <;> rw [h] <;> simp [madeCells, Value.cells, h, pcells, fre, usl]
theorem emps {W w : World} {oo : Nat → Prop} {l : List Pr} (h : SepO W oo w l) (P : Nat) : SepO W oo w (l ++ (List.replicate P (fre, 0)).map upart) := by
  induction P with
  | zero => simpa using h
  | succ P ih =>
    rw [List.replicate_succ', List.map_append, ← List.append_assoc]
    exact ih.add (Keep.refl _ _) trivial
/-- A number cut to bounds. -/
def cut3 (lo hi x : Int) : Int := if x < lo then lo else if hi < x then hi else x
theorem New_in {W w : World} {oo : Nat → Prop} (fr ps wd : Int) (h : SepO W oo w []) :
    Calls Try.prog 8 #[.int .i64 fr, .int .i64 ps, .int .i64 wd] w fun e w' => ∃ b L, e = .returned (pt b) ∧ SepO W oo w' (mparts b L (cut3 0 1048576 fr) (cut3 1 256 wd) (List.replicate (cut3 0 64 ps).toNat (fre, 0))) := by
  obtain ⟨f1, hf1⟩ : ∃ m, (if 1048576 < fr then 1048576 else fr) = m := ⟨_, rfl⟩
  obtain ⟨F, hF⟩ : ∃ c, (if 0 < f1 then f1 else 0) = c := ⟨_, rfl⟩
  obtain ⟨n1, hn1⟩ : ∃ m, (if 64 < ps then 64 else ps) = m := ⟨_, rfl⟩
  obtain ⟨N, hN⟩ : ∃ c, (if 0 < n1 then n1 else 0) = c := ⟨_, rfl⟩
  obtain ⟨c1, hc1⟩ : ∃ m, (if 256 < wd then 256 else wd) = m := ⟨_, rfl⟩
  obtain ⟨C, hC⟩ : ∃ m, (if 1 < c1 then c1 else 1) = m := ⟨_, rfl⟩
  have eF : cut3 0 1048576 fr = F := by unfold cut3; rw [← hF, ← hf1]; (repeat' split) <;> omega
  have eN : cut3 0 64 ps = N ∧ 0 ≤ N ∧ N ≤ 64 := by unfold cut3; rw [← hN, ← hn1]; (repeat' split) <;> omega
  have eC : cut3 1 256 wd = C := by unfold cut3; rw [← hC, ← hc1]; (repeat' split) <;> omega
  rw [eF, eN.1, eC]
  obtain ⟨_, N0, N1⟩ := eN
  obtain ⟨D, rfl⟩ : ∃ D : Nat, N = (D : Int) := ⟨N.toNat, by omega⟩
  rw [Int.toNat_natCast]
  obtain ⟨i, hi, hz, hs, hby⟩ := info_parts info_page
  have hmk : ∀ W : World, (Instr.makeSlice 50 (.int .i64 (D : Int)) (.int .i64 (D : Int))).run Try.prog W = .ok (.slice (some ⟨W.heap.size, 0, none⟩) D D) (W.alloc (.cells (pcs (List.replicate D (fre, 0))).toArray 57)) := fun W => by
    have h := run_make_rowN 50 57 i _ Try.underlying50 hi hz .i64 .i64 D D (Nat.le_refl _) (by rw [hby]; omega) (by omega) W
    rw [h, hs, pages_cells]
  have hfin : ∀ G, w.heap.size = G → SepO W oo ((w.alloc (.cells (pcs (List.replicate D (fre, 0))).toArray 57)).alloc (.cells #[.int .i64 F, .int .i64 C, .slice (some ⟨G, 0, none⟩) D D] 52)) (mparts (G + 1) G F C (List.replicate D (fre, 0))) := fun G hG => by
    have h1 := (h.new_blk 57 (pcs (List.replicate D (fre, 0))).toArray).new_blk 52 #[.int .i64 F, .int .i64 C, .slice (some ⟨G, 0, none⟩) D D]
    simp only [World.size_alloc, hG, List.nil_append, List.cons_append] at h1
    have h2 := emps (h1.pick [1, 0] (by decide)) D
    have e : (scells F C G (List.replicate D (fre, 0)).length) = #[.int .i64 F, .int .i64 C, .slice (some ⟨G, 0, none⟩) D D] := by simp [scells]
    unfold mparts
    rw [e]
    exact h2
  have HF := Lib.hid hfin
  clear hfin h hi hz hs hby eF eC N0 N1
  go_enter Try.func8, Try.ntmps8
  go_wp2
  go_ret
  exact ⟨_, _, rfl, HF.out _ rfl⟩
end Go.Proofs.Ytjgjablmkljfoaa.Ma
