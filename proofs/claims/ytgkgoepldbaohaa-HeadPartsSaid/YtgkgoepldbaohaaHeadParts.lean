/- HeadParts as a contract. Condition: the last argument is a byte. -/
import Derived.Test.YtgkgoepldbaohaaHead
set_option linter.unusedVariables false
set_option linter.unusedSimpArgs false
namespace Go.Proofs.Ytgkgoepldbaohaa.Hea
open Go.RowKit Go.Proofs.Ytgkgoepldbaohaa.W

theorem Pack_yes {h : Hd} (w : World) (hg : h.good) (x : Int) (hx : h.word = x) : Calls Try.prog 20 #[.agg h.cells] w fun e w' => e = .returned (.tuple #[.int .u64 x, .bool true]) ∧ Keep (fun _ => False) w w' := by
  have := Pack_calls h w
  rw [if_pos hg, show decide h.good = true from by simpa using hg, hx] at this
  exact this
theorem Pack_no {h : Hd} (w : World) (hg : ¬ h.good) : Calls Try.prog 20 #[.agg h.cells] w fun e w' => e = .returned (.tuple #[.int .u64 0, .bool false]) ∧ Keep (fun _ => False) w w' := by
  have := Pack_calls h w
  rw [if_neg hg, show decide h.good = false from by simpa using hg] at this
  exact this
theorem Unpack_yes {h : Hd} (w : World) (hg : h.good) (x : Int) (hx : h.word = x) : Calls Try.prog 24 #[.int .u64 x] w fun e w' => e = .returned (.tuple #[.agg h.cells, .bool true]) ∧ Keep (fun _ => False) w w' := by
  have hb := word_bound hg
  have := Unpack_calls x w (by omega) (by omega)
  rw [← hx, hdOf_word hg, show decide (isHead h.word) = true from by simpa using isHead_word hg] at this
  rw [← hx]
  exact this

section
variable {a0 a1 a2 a3 : Int} {g n o : Bool}
theorem Pack_ex (w : World) (hg : Hd.good ⟨a0, a1, a2, a3, g, n, o⟩) (x : Int) (hx : Hd.word ⟨a0, a1, a2, a3, g, n, o⟩ = x) : Calls Try.prog 20 #[.agg #[.int .i64 a0, .int .i64 a1, .int .i64 a2, .int .i64 a3, .bool g, .bool n, .bool o]] w fun e w' => e = .returned (.tuple #[.int .u64 x, .bool true]) ∧ Keep (fun _ => False) w w' := Pack_yes (h := ⟨a0, a1, a2, a3, g, n, o⟩) w hg x hx
theorem Pack_exn (w : World) (hg : ¬ Hd.good ⟨a0, a1, a2, a3, g, n, o⟩) : Calls Try.prog 20 #[.agg #[.int .i64 a0, .int .i64 a1, .int .i64 a2, .int .i64 a3, .bool g, .bool n, .bool o]] w fun e w' => e = .returned (.tuple #[.int .u64 0, .bool false]) ∧ Keep (fun _ => False) w w' := Pack_no (h := ⟨a0, a1, a2, a3, g, n, o⟩) w hg
theorem Unpack_ex (w : World) (hg : Hd.good ⟨a0, a1, a2, a3, g, n, o⟩) (x : Int) (hx : Hd.word ⟨a0, a1, a2, a3, g, n, o⟩ = x) : Calls Try.prog 24 #[.int .u64 x] w fun e w' => e = .returned (.tuple #[.agg #[.int .i64 a0, .int .i64 a1, .int .i64 a2, .int .i64 a3, .bool g, .bool n, .bool o], .bool true]) ∧ Keep (fun _ => False) w w' := Unpack_yes (h := ⟨a0, a1, a2, a3, g, n, o⟩) w hg x hx
end

set_option maxHeartbeats 2000000 in
theorem awake_calls (w : World) : Calls Try.prog 22 #[] w fun e w' => e = .returned (.bool true) ∧ Keep (fun _ => False) w w' := by
  go_enter Try.func22, Try.ntmps22
  go_wp2_with fail
  refine (Pack_ex _ (by decide) 27496380694531 (by decide)).mono ?_
  rintro e w1 ⟨rfl, k1⟩
  go_wp2_with fail
  refine (Unpack_ex (a0 := 3) (a1 := 1) (a2 := 2) (a3 := 1) (g := false) (n := false) (o := true) _ (by decide) 27496380694531 (by decide)).mono ?_
  rintro e w2 ⟨rfl, k2⟩
  have k12 := k1.trans k2 (fun i h => .inl h)
  go_wp2_with fail
  refine (Pack_exn _ (by decide)).mono ?_
  rintro e w3 ⟨rfl, k3⟩
  have hB := k3.blk (Blk.new w2 33 #[.int .i64 3, .int .i64 1, .int .i64 2, .int .i64 1, .bool false, .bool false, .bool true]) (fun h => h)
  have kk := (k12.alloc (.cells #[.int .i64 3, .int .i64 1, .int .i64 2, .int .i64 1, .bool false, .bool false, .bool true] 33)).trans k3 (fun i h => .inl h)
  have c0 := hB.cell 0
  have c2 := hB.cell 2
  have c6 := hB.cell 6
  simp at c0 c2 c6
  clear hB k1 k2 k12 k3
  go_wp2_with fail
  go_ret
  exact ⟨by simp, kk⟩

set_option maxHeartbeats 4000000 in
set_option maxRecDepth 20000 in
theorem Parts_calls (a0 a1 a2 a3 : Int) (g n o g' n' o' : Bool) (m : Int) (w : World) (m0 : 0 ≤ m) (m1 : m ≤ 255) :
    Calls Try.prog 10 #[.agg #[.int .i64 a0, .int .i64 a1, .int .i64 a2, .int .i64 a3, .bool g, .bool n, .bool o], .bool g', .bool n', .bool o', .int .u8 m] w fun e w' => e = .returned (.bool true) ∧ Below w.heap.size w w' := by
  by_cases hg : Hd.good ⟨a0, a1, a2, a3, g, n, o⟩
  · have hb := word_bound hg
    obtain ⟨x, hx⟩ : ∃ x, Hd.word ⟨a0, a1, a2, a3, g, n, o⟩ = x := ⟨_, rfl⟩
    have hk : Hd.good ⟨a0, a1, m % 8, a3, g', n', o'⟩ := by unfold Hd.good at hg ⊢; simp only [] at hg ⊢; omega
    have hc := word_bound hk
    obtain ⟨y, hy⟩ : ∃ y, Hd.word ⟨a0, a1, m % 8, a3, g', n', o'⟩ = y := ⟨_, rfl⟩
    have hxy : bits .and .u64 x 4294967295 = bits .and .u64 y 4294967295 := by
      have l1 : x % 4294967296 = a0 + 65536 * a1 := by rw [← hx]; unfold Hd.word; unfold Hd.good at hg; simp only [] at hg ⊢; cases g <;> cases n <;> cases o <;> simp <;> omega
      have l2 : y % 4294967296 = a0 + 65536 * a1 := by rw [← hy]; unfold Hd.word; unfold Hd.good at hk; simp only [] at hk ⊢; cases g' <;> cases n' <;> cases o' <;> simp <;> omega
      rw [hx] at hb
      rw [hy] at hc
      rw [u64_and x _ (by omega) (by omega) (by omega) (by omega), u64_and y _ (by omega) (by omega) (by omega) (by omega)]
      have e1 : x.toNat &&& (4294967295 : Int).toNat = x.toNat % 4294967296 := Nat.and_two_pow_sub_one_eq_mod x.toNat 32
      have e2 : y.toNat &&& (4294967295 : Int).toNat = y.toNat % 4294967296 := Nat.and_two_pow_sub_one_eq_mod y.toNat 32
      rw [e1, e2]
      omega
    obtain ⟨z, hz⟩ : ∃ z, bits .and .u64 y 4294967295 = z := ⟨_, rfl⟩
    rw [hz] at hxy
    have hP := Lib.hid (fun W => Pack_ex W hg x hx)
    have hQ := Lib.hid (fun W => Pack_ex W hk y hy)
    have hU := Lib.hid (fun W => Unpack_ex W hk y hy)
    clear hg hb hx hk hc hy
    go_enter Try.func10, Try.ntmps10
    go_wp2_with fail
    refine (hP.out _).mono ?_
    rintro e w1 ⟨rfl, k1⟩
    have hB1 := k1.blk (Blk.new w 33 #[.int .i64 a0, .int .i64 a1, .int .i64 a2, .int .i64 a3, .bool g, .bool n, .bool o]) (fun h => h)
    have K1 := ((Keep.refl (fun _ => False) w).alloc (.cells #[.int .i64 a0, .int .i64 a1, .int .i64 a2, .int .i64 a3, .bool g, .bool n, .bool o] 33)).trans k1 (fun i h => .inl h)
    have c0 := hB1.cell 0
    have c1 := hB1.cell 1
    have c2 := hB1.cell 2
    have c3 := hB1.cell 3
    have c4 := hB1.cell 4
    have c5 := hB1.cell 5
    have c6 := hB1.cell 6
    simp at c0 c1 c2 c3 c4 c5 c6
    have hbl := hB1.lt
    clear k1
    go_wp2_with fail
    refine (hQ.out _).mono ?_
    rintro e w2 ⟨rfl, k2⟩
    have K2 := (K1.alloc (.cells #[.int .i64 a0, .int .i64 a1, .int .i64 (m % 8), .int .i64 a3, .bool g', .bool n', .bool o'] 33)).trans k2 (fun i h => .inl h)
    have hB2 := k2.blk (hB1.alloc (.cells #[.int .i64 a0, .int .i64 a1, .int .i64 (m % 8), .int .i64 a3, .bool g', .bool n', .bool o'] 33)) (fun h => h)
    clear c0 c1 c2 c3 c4 c5 c6 k2 hB1 K1
    go_wp2_with fail
    refine (hU.out _).mono ?_
    rintro e w3 ⟨rfl, k3⟩
    have K3 := K2.trans k3 (fun i h => .inl h)
    have hB3 := k3.blk hB2 (fun h => h)
    clear K2 hB2 k3
    go_wp2_with fail
    refine (awake_calls _).mono ?_
    rintro e w4 ⟨rfl, k4⟩
    have K4 := (K3.alloc (.cells #[.int .i64 a0, .int .i64 a1, .int .i64 (m % 8), .int .i64 a3, .bool g', .bool n', .bool o'] 33)).trans k4 (fun i h => .inl h)
    have hB4 := k4.blk (hB3.alloc (.cells #[.int .i64 a0, .int .i64 a1, .int .i64 (m % 8), .int .i64 a3, .bool g', .bool n', .bool o'] 33)) (fun h => h)
    have hX4 := k4.blk (Blk.new w3 33 #[.int .i64 a0, .int .i64 a1, .int .i64 (m % 8), .int .i64 a3, .bool g', .bool n', .bool o']) (fun h => h)
    have c0 := hB4.cell 0
    have c1 := hB4.cell 1
    have c3 := hB4.cell 3
    have d0 := hX4.cell 0
    have d1 := hX4.cell 1
    have d2 := hX4.cell 2
    have d3 := hX4.cell 3
    have d4 := hX4.cell 4
    have d5 := hX4.cell 5
    have d6 := hX4.cell 6
    simp at c0 c1 c3 d0 d1 d2 d3 d4 d5 d6
    clear K3 hB3 k4 hB4 hX4
    go_wp2_with fail
    go_ret
    exact ⟨by simp, K4.below (fun i h => h.elim)⟩
  · have hP := Lib.hid (fun W => Pack_exn W hg)
    clear hg
    go_enter Try.func10, Try.ntmps10
    go_wp2_with fail
    refine (hP.out _).mono ?_
    rintro e w1 ⟨rfl, k1⟩
    have K1 := ((Keep.refl (fun _ => False) w).alloc (.cells #[.int .i64 a0, .int .i64 a1, .int .i64 a2, .int .i64 a3, .bool g, .bool n, .bool o] 33)).trans k1 (fun i h => .inl h)
    go_wp2_with fail
    refine (awake_calls _).mono ?_
    rintro e w2 ⟨rfl, k2⟩
    have K2 := K1.trans k2 (fun i h => .inl h)
    go_wp2_with fail
    go_ret
    exact ⟨rfl, K2.below (fun i h => h.elim)⟩
end Go.Proofs.Ytgkgoepldbaohaa.Hea
