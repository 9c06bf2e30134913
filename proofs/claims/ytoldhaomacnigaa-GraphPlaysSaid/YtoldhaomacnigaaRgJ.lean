/- Contracts of the reference's graph: New; Shown over parts of memory. No condition. -/
import Derived.Test.YtoldhaomacnigaaRgI
import Derived.Test.YtoldhaomacnigaaGrL
set_option linter.unusedVariables false
set_option linter.unusedSimpArgs false
namespace Go.Proofs.Ytoldhaomacnigaa.Rg
open Go.RowKit Go.Proofs.Ytoldhaomacnigaa.W Go.Proofs.Ytoldhaomacnigaa Go.Proofs.Ytoldhaomacnigaa.Gr
section
variable {W w : World} {oo : Nat → Prop} {g : Nat} {s : GS} {l : List Pr}
theorem Shown_sep (h : SepO W oo w l) (k : Nat) (hk : l[k]? = some (Rph g s)) (hn : s.nodes.length ≤ 1000) : Calls Try.prog 16 #[pt g] w fun e w' => ∃ v hv, e = .returned (.tuple #[v, hv]) ∧ NS w' (fun i => i < w'.heap.size) v (shown s) ∧ SL w' (fun i => i < w'.heap.size) .i64 hv (helds s) ∧ SepO W oo w' l := by
  obtain ⟨o, ⟨⟨K, N⟩, ⟨hok, hN⟩, hsep⟩, _, hup⟩ := h.open_ k hk
  refine (Shown_in (SepO.enter hsep) hok hN (by rw [← hN] at hn; simpa using hn)).mono ?_
  rintro e w' ⟨v, hv, he, h1, h2, h'⟩
  refine ⟨v, hv, he, h1, h2, ?_⟩
  have h3 := hup w' (Rph g s) ⟨(K, N), ⟨hok, hN⟩, h'.leave⟩ h'.keep0
  rwa [set_self hk] at h3
theorem g_set {w2 : World} {t : TypeId} {g i : Nat} {q r : Pr} {C : Array Value} (h : SepO W oo w2 (l ++ [blkP g t C, q] ++ [r])) (u : Value) : SepO W oo (w2.setCell ⟨g, i, none⟩ u) (l ++ [blkP g t (C.setIfInBounds i u), q] ++ [r]) := by
  have e : ∀ x : Pr, l ++ [x, q] ++ [r] = l ++ x :: [q, r] := fun x => by simp
  rw [e] at h ⊢
  exact h.set_mid i u
theorem g_end {w2 : World} {g N L c0 d0 : Nat} {A B : Option Addr} (n m : Int) (hN : clamp64 n = N) (hL : L = clamp64 m) (h : SepO W oo w2 (l ++ [blkP g 53 #[.slice A 1 c0, .slice B N d0, .int .i64 (L : Int)], rowK 45 2 (.slice A 1 c0) 1 [.slice none 0 0, .slice none 0 0]] ++ [rowP 3 B N d0 (nats (List.replicate N 0))])) : SepO W oo w2 (l ++ [Rph g (gnew n m)]) := by
  rw [List.append_assoc] at h
  have h2 := h.pack_tail
  have h3 := h2.weak l.length at_last (Q := Rph g (gnew n m)) (fun w o hp => by
    refine ⟨(⟨A, c0, B, d0⟩, []), ⟨gnew_ok n m, rfl⟩, ?_⟩
    have e : rparts g (gnew n m).largest ⟨A, c0, B, d0⟩ (gnew n m).hs [] = [blkP g 53 #[.slice A 1 c0, .slice B N d0, .int .i64 (L : Int)], rowK 45 2 (.slice A 1 c0) 1 [.slice none 0 0, .slice none 0 0]] ++ [rowP 3 B N d0 (nats (List.replicate N 0))] := by
      simp [rparts, gnew, hN, ← hL, rcells, rcl]
    rw [e]
    exact hp)
  rwa [List.set_append_right _ _ (Nat.le_refl _), Nat.sub_self, List.set_cons_zero] at h3
set_option maxRecDepth 20000 in
set_option maxHeartbeats 4000000 in
theorem New_sep (n m : Int) (h : SepO W oo w l) : Calls Try.prog 10 #[.int .i64 n, .int .i64 m] w fun e w' => ∃ g, e = .returned (pt g) ∧ SepO W oo w' (l ++ [Rph g (gnew n m)]) := by
  obtain ⟨i1, i2, i3, i4, i5⟩ := info_parts Sm.info_int
  obtain ⟨n1, n2, n3, n4, n5⟩ := info_parts info_nd
  have mk := fun X => run_make (P := Try.prog) X 35 45 n1 (.agg #[.slice none 0 0, .slice none 0 0]) Try.underlying35 n2 n3 .i64 .i64 1 1 (by omega) (by omega) (by rw [n5]; decide) (by omega)
  rw [n4] at mk
  have em : madeCells (Value.agg #[.slice none 0 0, .slice none 0 0]).cells ((1 : Int).toNat * 2) = #[.slice none 0 0, .slice none 0 0] := by kernel_rfl
  have em2 : madeCells #[.slice none 0 0, .slice none 0 0] 2 = #[.slice none 0 0, .slice none 0 0] := by kernel_rfl
  simp only [em, show ((1 : Int).toNat) = 1 from rfl] at mk
  obtain ⟨N, hN⟩ : ∃ N, clamp64 n = N := ⟨_, rfl⟩
  have hNn : ∀ j : Nat, j < N ↔ ((j : Int) < n ∧ (j : Int) < 64) := fun j => by rw [← hN]; unfold clamp64; (repeat' split) <;> omega
  have hN64 : N ≤ 64 := by rw [← hN]; exact clamp64_le n
  have hst : ∀ lar : Nat, SepO W oo ((w.alloc (.cells #[.slice none 0 0, .slice none 0 0] 45)).alloc (.cells #[slv w.heap.size 1, .slice none 0 0, .int .i64 (lar : Int)] 53)) (l ++ [blkP (w.heap.size + 1) 53 #[slv w.heap.size 1, .slice none 0 0, .int .i64 (lar : Int)], rowK 45 2 (slv w.heap.size 1) 1 [.slice none 0 0, .slice none 0 0]] ++ [rowP 3 none 0 0 []]) := fun lar => by
    have h1 := (h.new_rowK 45 2 #[.slice none 0 0, .slice none 0 0] 1 (by unfold maxLen; omega) rfl).new_blk 53 #[slv w.heap.size 1, .slice none 0 0, .int .i64 (lar : Int)]
    rw [List.append_assoc] at h1
    have h2 := (h1.tail_pick [1, 0] (by decide)).nil_row 3
    simpa using h2
  have HST := Lib.hid hst
  have HNN := Lib.hid hNn
  have HN := Lib.hid hN
  clear hst hNn hN n2 n3 n4 n5
  have key : ∃ lar : Nat, lar = clamp64 m ∧ ((m < 0 ∧ lar = 0) ∨ (64 < m ∧ lar = 64) ∨ (0 ≤ m ∧ m ≤ 64 ∧ m = lar)) := by
    refine ⟨_, rfl, ?_⟩
    unfold clamp64
    by_cases h0 : m < 0
    · exact .inl ⟨h0, by rw [if_pos h0]⟩
    · by_cases h1 : 64 < m
      · exact .inr (.inl ⟨h1, by rw [if_neg h0, if_pos h1]⟩)
      · exact .inr (.inr ⟨by omega, by omega, by rw [if_neg h0, if_neg h1]; omega⟩)
  obtain ⟨lar, hlar, key⟩ := key
  obtain ⟨M, hM⟩ : ∃ M, clamp64 m = M := ⟨_, rfl⟩
  rw [hM] at hlar
  have HLA := Lib.hid hlar
  have HM := Lib.hid hM
  clear hlar hM
  rcases key with ⟨k1, rfl⟩ | ⟨k1, rfl⟩ | ⟨k1, k2, rfl⟩
  all_goals
    have HST1 := Lib.hid (HST.out 0)
    go_enter Try.func10, Try.ntmps10
    go_wp2_with fail
    go_loopg [6] N (fun gk z wr => ∃ (j : Nat) (B : Option Addr) (d lar : Nat), j + gk = N ∧ z = .int .i64 j ∧ lar = M ∧ SepO W oo wr (l ++ [blkP (w.heap.size + 1) 53 #[slv w.heap.size 1, .slice B j d, .int .i64 (lar : Int)], rowK 45 2 (slv w.heap.size 1) 1 [.slice none 0 0, .slice none 0 0]] ++ [rowP 3 B j d (nats (List.replicate j 0))]))
    case atStart => exact ⟨0, none, 0, _, by omega, rfl, HLA.out, by first | exact HST.out _ | (rw [em2]; exact HST.out _)⟩
    case round =>
      obtain ⟨j, B, d, L, hj, rfl, hL, h⟩ := hrel
      have x1 := (h.first.blk l.length at_last).cell 1
      simp at x1
      have x1' := fun o => ((h.alloc o).first.blk l.length at_last).cell 1
      simp at x1'
      have HJ := Lib.hid hj
      have hjl : j ≤ N := by omega
      have H6 := Lib.hid h
      have HL := Lib.hid hL
      have hjn := HNN.out j
      have HNj : (j < N) = ((j : Int) < n ∧ (j : Int) < 64) := propext hjn
      clear hj h hL hjn
      by_cases hlt : j < N
      · rw [eq_true hlt] at HNj
        obtain ⟨hn1, hn2⟩ := HNj.symm ▸ trivial
        have hn1 : decide ((j : Int) < n) = true := by simpa using hn1
        have hn2 : decide ((j : Int) < 64) = true := by simpa using hn2
        clear HNj
        go_wp2_with (at_builtin; refine wpList_append_last rfl _ _ 36 rfl 3 i1 (.int .i64 0) 8 Try.underlying36 i2 i3 i4 i5 rfl B j d _ rfl wr.heap.size (.int .i64 0) rfl (H6.out.alloc _) ?c1 rfl ?c2 ?c3 ?_)
        case c1 => exact (Blk.new _ _ _).cell 0
        case c2 => omega
        case c3 => omega
        intro A2 c2 w2 h2'
        have h2 : SepO W oo w2 (l ++ [blkP (w.heap.size + 1) 53 #[slv w.heap.size 1, .slice B j d, .int .i64 (L : Int)], rowK 45 2 (slv w.heap.size 1) 1 [.slice none 0 0, .slice none 0 0]] ++ [rowP 3 A2 (j + 1) c2 (nats (List.replicate j 0) ++ [Value.int .i64 0])]) := by first | exact h2' | simpa using h2'
        clear h2'
        have zf := (h2.first.blk l.length at_last).frozen 1
        have zc := (h2.first.blk l.length at_last).cell 1
        simp at zc
        have h3 := g_set (i := 1) h2 (.slice A2 (j + 1) c2)
        have e3 : nats (List.replicate j 0) ++ [Value.int .i64 0] = nats (List.replicate (j + 1) 0) := by
          rw [List.replicate_succ']; simp [nats]
        rw [e3] at h3
        have H7 := Lib.hid h3
        clear h2 h3 e3
        go_wp2_with fail
        go_roundg (gk - 1)
        case measure => have := HJ.out; omega
        case rel => exact ⟨j + 1, A2, c2, L, by have := HJ.out; omega, by go_num, HL.out, H7.out⟩
      · have hje : j = N := by omega
        rw [eq_false hlt] at HNj
        have hcase : ¬ ((j : Int) < n) ∨ ((j : Int) < n ∧ ¬ ((j : Int) < 64)) := by
          rcases Classical.em ((j : Int) < n) with h1 | h1
          · exact .inr ⟨h1, fun h2 => by rw [eq_true h1, eq_true h2] at HNj; simp at HNj⟩
          · exact .inl h1
        clear HNj
        rcases hcase with h1 | ⟨h1, h2⟩
        · have hn1 : decide ((j : Int) < n) = false := by simpa using h1
          go_wp2
          subst hje
          exact bodyPost_ret (v := pt (w.heap.size + 1)) (by simp [results, Try.results10, go_sem]) rfl ⟨w.heap.size + 1, rfl, g_end n _ HN.out (HL.out.trans HM.out.symm) H6.out⟩
        · have hn1 : decide ((j : Int) < n) = true := by simpa using h1
          have hn2 : decide ((j : Int) < 64) = false := by simpa using h2
          go_wp2
          subst hje
          exact bodyPost_ret (v := pt (w.heap.size + 1)) (by simp [results, Try.results10, go_sem]) rfl ⟨w.heap.size + 1, rfl, g_end n _ HN.out (HL.out.trans HM.out.symm) H6.out⟩
end
end Go.Proofs.Ytoldhaomacnigaa.Rg
