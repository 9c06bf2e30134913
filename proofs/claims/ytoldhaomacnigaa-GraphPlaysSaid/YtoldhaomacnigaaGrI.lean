/- Contracts of package graph: numbers; Clone and Clip. No condition. -/
import Derived.Test.YtoldhaomacnigaaGrH
import Derived.Test.YtoldhaomacnigaaNodesP
set_option linter.unusedVariables false
set_option linter.unusedSimpArgs false
namespace Go.Proofs.Ytoldhaomacnigaa.Gr
open Go.RowKit Go.Proofs.Ytoldhaomacnigaa.W Go.Proofs.Ytoldhaomacnigaa
section
variable {W w : World} {oo : Nat → Prop} {g H lar : Nat} {hs : List Nat} {N : NL} {M O mg c : Nat} {A : Option Addr} {out : List Nat} {m : List Pr}
set_option maxHeartbeats 2000000 in
theorem numbers_in {xs : List Nat} {L j0 : Nat} (h : SepO W oo w (gparts g H lar hs N ++ lv M O mg A c N out ++ m)) (hL : (gparts g H lar hs N)[j0]? = some (blkP L 59 (pvs N xs))) (hx : ∀ x ∈ xs, x ≤ N.length) (hxl : xs.length ≤ 64) (ho : OutOk N.length out) :
    Calls Try.prog 31 #[slv L xs.length, .map (some mg)] w fun e w' => ∃ B d, e = .returned (.slice B xs.length d) ∧ SepO W oo w' (gparts g H lar hs N ++ lv M O mg A c N out ++ m ++ [rowP 3 B xs.length d (xs.map fun x => .int .i64 ((num out x : Nat) : Int))]) := by
  obtain ⟨i, hi, hz, hs', hby⟩ := info_parts Sm.info_int
  obtain ⟨P, hP⟩ : ∃ P, gparts g H lar hs N ++ lv M O mg A c N out ++ m = P := ⟨_, rfl⟩
  have look : ∀ X k, SepO W oo X (P ++ k) → ∀ x ∈ xs, (Instr.lookup 63 (.map (some mg)) (pv N x) false).run Try.prog X = .ok (.int .i64 (num out x)) X := fun X k hX x hxm => by
    rw [← hP] at hX
    exact (lv_look hX.first.first ho (hx x hxm)).2
  have cL : ∀ X k, SepO W oo X (P ++ k) → ∀ j, j < xs.length → X.cell? ⟨L, j, none⟩ = some (pv N (xs[j]?.getD 0)) := fun X k hX j hj => by
    rw [← hP] at hX
    rw [(hX.blk j0 (at_left (at_left (at_left hL)))).cell, pvs_get hj]
  have hmk := fun X => run_make (P := Try.prog) X 36 3 i (.int .i64 0) Try.underlying36 hi hz .i64 .i64 0 (xs.length : Int) (by omega) (by omega) (by rw [hby]; omega) (by omega)
  rw [hs', Nat.mul_one, show ((0 : Int).toNat) = 0 from rfl, Int.toNat_natCast] at hmk
  have h2 := h.new_row_cap 3 (madeCells (Value.int .i64 0).cells xs.length) (by simp [size_madeCells]; omega)
  rw [hP] at h2 h ⊢
  have ec : (Value.int .i64 0).cells = #[Value.int .i64 0] := rfl
  rw [ec] at h2 hmk
  have e0 : (madeCells #[Value.int .i64 0] xs.length).size = xs.length := by simp [size_madeCells]
  rw [e0] at h2
  have H2 := Lib.hid h2
  have LOOK := Lib.hid look
  have CL := Lib.hid cL
  clear h2 look cL h hx ho hL hP e0
  go_enter Try.func31, Try.ntmps31
  go_wp2_with fail
  go_loopg [5, 13] xs.length (fun gk v z wr => ∃ (j : Nat) (B : Option Addr) (d : Nat), j + gk = xs.length ∧ z = .int .i64 j ∧ v = .slice B j d ∧ SepO W oo wr (P ++ [rowP 3 B j d ((xs.take j).map fun x => .int .i64 ((num out x : Nat) : Int))]))
  case atStart => exact ⟨0, _, _, by omega, rfl, rfl, by simpa using H2.out⟩
  case round =>
    clear H2 hmk
    obtain ⟨j, B, d, hj, rfl, rfl, h⟩ := hrel
    have HJ := Lib.hid hj
    have hjl : j ≤ xs.length := by omega
    clear hj
    by_cases hlt : j < xs.length
    · have cx := CL.out _ _ h j hlt
      obtain ⟨x, hx⟩ : ∃ x, xs[j]?.getD 0 = x := ⟨_, rfl⟩
      have hxm : x ∈ xs := by rw [← hx]; simp [hlt]
      have hxe : xs.take (j + 1) = xs.take j ++ [x] := by rw [List.take_succ_eq_append_getElem hlt]; simp [← hx, hlt]
      rw [hx] at cx
      have hlk := LOOK.out _ _ h x hxm
      obtain ⟨q, hq⟩ := pv_ptr N x
      rw [hq] at cx hlk
      have H1 := Lib.hid h
      have HX := Lib.hid hxe
      clear h hx hxm hxe hq
      go_wp2_with (at_builtin; refine wpList_append_sep rfl _ _ 36 rfl 3 i (.int .i64 0) 8 Try.underlying36 hi hz hs' hby rfl B j d ((xs.take j).map fun x => .int .i64 ((num out x : Nat) : Int)) rfl wr.heap.size (.int .i64 (num out x)) rfl (H1.out.alloc _) P.length (by simp) ?c1 rfl ?c2 ?c3 ?_)
      case c1 => exact (Blk.new _ _ _).cell 0
      case c2 => omega
      case c3 => omega
      intro A2 c2 w2 h2
      have h3 : SepO W oo w2 (P ++ [rowP 3 A2 (j + 1) c2 ((xs.take (j + 1)).map fun x => .int .i64 ((num out x : Nat) : Int))]) := by
        rw [HX.out]
        simpa using h2
      have H3 := Lib.hid h3
      clear h2 h3
      go_wp2_with fail
      go_roundg (gk - 1)
      case measure => have := HJ.out; omega
      case rel => exact ⟨j + 1, A2, c2, by have := HJ.out; omega, by go_num, rfl, H3.out⟩
    · have hje : j = xs.length := by omega
      subst hje
      rw [List.take_length] at h
      have H1 := Lib.hid h
      clear h
      go_wp2_with fail
      go_ret
      exact ⟨B, d, rfl, H1.out⟩
end
section
variable {W w : World} {oo : Nat → Prop} {l : List Pr}
set_option maxHeartbeats 1000000 in
theorem CloneW_sep {L : List Int} {gb : Nat} (h : SepO W oo w l) (k : Nat) (hk : l[k]? = some (blkP gb 28 (wds L))) (hl : L.length ≤ 1048576) :
    Calls Try.prog 33 #[slv gb L.length] w fun e w' =>
      ∃ A c, e = .returned (.slice A L.length c) ∧ SepO W oo w' (l ++ [rowP 28 A L.length c (L.map (Value.int .u64))]) := by
  obtain ⟨i, hi, hz, hs, hb⟩ := info_parts info_word
  have hnil := fun (W : World) => Lib.run_eql_slice_nil (P := Try.prog) W 43 28 (some ⟨gb, 0, none⟩) L.length L.length 0 0 Try.underlying43
  have hg := h.blk k hk
  have hglt := hg.lt
  have H0 := Lib.hid h
  clear h hk
  go_enter Try.func33, Try.ntmps33
  go_wp2_with (at_builtin; refine wpList_append_own _ rfl _ _ 43 rfl w.heap.size 28 i (.int .u64 0) 1 8 Try.underlying43 hi hz hs hb rfl (by decide) _ 0 [] rfl ?c0 ⟨gb, 0, none⟩ L.length L.length (L.map (Value.int .u64)) rfl ?c1 ?c2 ?c3 ?c4 ?c5 ?c6 ?_)
  case c0 => exact World.ownsRow_lit w #[] 0 (Nat.le_refl _) (by unfold maxLen; omega) (by simp)
  case c1 => simp
  case c2 =>
    intro j u hu
    have hj : j < L.length := by
      rcases Nat.lt_or_ge j L.length with h | h
      · exact h
      · rw [List.getElem?_eq_none (by simpa using h)] at hu; cases hu
    rw [Addr.add_lit, Nat.zero_add]
    have h1 : Blk (w.alloc (.cells #[] 28)) gb 28 (wds L) := hg.alloc _
    rw [h1.cell j]
    simpa [wds] using hu
  case c3 => intro u hu; simp at hu; obtain ⟨x, _, rfl⟩ := hu; rfl
  case c4 => unfold maxLen; omega
  case c5 => omega
  case c6 => simp
  intro v' w1 hown hgrow _
  obtain ⟨A, c, hv, hlc⟩ : ∃ A c, v' = .slice A L.length c ∧ L.length ≤ c := by
    rcases hown.2 with ⟨h, h0⟩ | ⟨g', cap, cur, h, _, _, h2, _⟩
    · exact ⟨none, 0, by rw [h, show L.length = 0 by omega], by omega⟩
    · exact ⟨_, cap, h, h2⟩
  subst hv
  have hkk : Keep (fun _ => False) w w1 := ((Keep.refl _ w).alloc _).trans (Keep.of_grown (ok := fun i => w.heap.size ≤ i) hgrow (by intro g h; simp [Value.ownBlock] at h; omega)) (fun i h => .inr h)
  have h9 : SepO W oo w1 (l ++ [rowP 28 A L.length c (L.map (Value.int .u64))]) := H0.out.add (P := rowP 28 A L.length c (L.map (Value.int .u64))) hkk (by
    have := qr_of_own (ok := fun i => w.heap.size ≤ i) (by simpa using hown) (fun i h => h)
    exact this)
  have H9 := Lib.hid h9
  clear hown hgrow hkk h9
  go_wp2
  go_ret
  exact ⟨A, c, rfl, H9.out⟩
theorem ClipW_calls {A : Option Addr} {n c : Nat} (w : World) (h : n ≤ c) (hn : n ≤ 9223372036854775807) :
    Calls Try.prog 32 #[.slice A n c] w fun e w' => e = .returned (.slice A n n) ∧ w = w' := by
  go_enter Try.func32, Try.ntmps32
  go_wp2
  go_ret
  exact ⟨rfl, rfl⟩
theorem ClipN_calls {A : Option Addr} {n c : Nat} (w : World) (h : n ≤ c) (hn : n ≤ 9223372036854775807) :
    Calls Try.prog 34 #[.slice A n c] w fun e w' => e = .returned (.slice A n n) ∧ w = w' := by
  go_enter Try.func34, Try.ntmps34
  go_wp2
  go_ret
  exact ⟨rfl, rfl⟩
end
end Go.Proofs.Ytoldhaomacnigaa.Gr
