/- ArenaBack as a contract. Condition: the list reads as a list. -/
import Derived.Test.YtfaffpmmjlddeaaArenaLaws
set_option linter.unusedVariables false
set_option linter.unusedSimpArgs false
namespace Go.Proofs.Ytfaffpmmjlddeaa.Ar
open Go.RowKit Go.Proofs.Ytfaffpmmjlddeaa.W

theorem run_cutm {t e : TypeId} {P : Program} {i : TypeInfo} (ht : P.underlying t = some (.slice e)) (hi : P.info? e = some i) (g off n c : Nat) (m : Int) (h0 : 0 ≤ m) (hm : m ≤ c) (W : World) :
    (Instr.slice t (.slice (some ⟨g, off, none⟩) n c) none (some (.int .i64 m)) none).run P W = .ok (.slice (some ⟨g, off, none⟩) m.toNat c) W := by
  have hel : P.elem t = e := by simp [Program.elem, ht]
  have hu : P.underlying t = some (.slice (P.elem t)) := by rw [hel]; exact ht
  rw [run_slice_h W t (some ⟨g, off, none⟩) n c hu .i64 m h0 hm, hel]
  simp [sizeOf, typeInfo, hi, sliced, Result.andThen, Addr.add_lit]

set_option maxRecDepth 20000 in
set_option maxHeartbeats 2000000 in
theorem Back_calls {v1 : Value} {l1 : List Int} (m : Int) (w : World) (g1 : SL w (fun i => i < w.heap.size) .u64 v1 l1) (m0 : 0 ≤ m) (m1 : m ≤ 255) (hcap : ∀ A n c, v1 = .slice A n c → n ≤ c) :
    Calls Try.prog 7 #[v1, .int .u8 m] w fun e w' => e = .returned (.bool true) ∧ Below w.heap.size w w' := by
  obtain ⟨A1, c1, rfl, hm1, hc1⟩ := g1
  have hcap1 := hcap _ _ _ rfl
  clear hcap
  have HC1 := Lib.hid hc1
  clear hc1
  obtain ⟨N, hN⟩ : ∃ N : Nat, (if 100 < l1.length then 100 else l1.length) = N := ⟨_, rfl⟩
  have hn1 : N ≤ 100 := by rw [← hN]; split <;> omega
  have hle : N ≤ l1.length := by rw [← hN]; split <;> omega
  have hN0 : List.replicate (clampN (3 * (N : Int))).toNat (0 : Int) = List.replicate (3 * N) 0 := by rw [clampN_id (by omega) (by omega)]; congr 1
  have HLE := Lib.hid hle
  have HN0 := Lib.hid hN0
  clear hN0 hle
  by_cases hbig : 100 < l1.length
  · have hd : decide (100 < (l1.length : Int)) = true := by simp; omega
    have hNe : N = 100 := by rw [← hN, if_pos hbig]
    obtain ⟨b1, o1, rfl, hb1, hlt1, hcell1⟩ := HC1.out (by omega)
    obtain ⟨ii, hii, hz, hs, hby⟩ := info_parts info_u64
    have hsl : ∀ W : World, (Instr.slice 35 (.slice (some ⟨b1, o1, none⟩) l1.length c1) none (some (.int .i64 100)) none).run Try.prog W = .ok (.slice (some ⟨b1, o1, none⟩) N c1) W := fun W => by
      rw [hNe]
      have := run_cutm Try.underlying35 hii b1 o1 l1.length c1 100 (by omega) (by omega) W
      simpa using this
    have HC1 : Hid (0 < l1.length → ∃ b o, some (⟨b1, o1, none⟩ : Addr) = some ⟨b, o, none⟩ ∧ b < w.heap.size ∧ b < w.heap.size ∧ ∀ j, j < l1.length → w.cell? ⟨b, o + j, none⟩ = some (.int .u64 (l1[j]?.getD 0))) := Lib.hid fun _ => ⟨b1, o1, rfl, hb1, hlt1, hcell1⟩
    clear hN hNe hii hz hs hby hcell1
    go_enter Try.func7, Try.ntmps7
    go_wp2_with fail
    refine (New_at (3 * (N : Int)) w).mono ?_
    rintro e w0 ⟨b, rfl, h0⟩
    rw [HN0.out] at h0
    go_wp2_with fail
    go_loopw [7] (fun i wr => ∃ (j : Nat) (ws : List Int), j ≤ N ∧ i = .int .i64 j ∧ ws.length = 3 * N ∧ (∀ y, y < 3 * N → ws[y]?.getD 0 = if N ≤ y ∧ y < N + j then l1[y - N]?.getD 0 else 0) ∧ At w wr b ws j) (fun i _ => N - (intOf i).toNat)
    case atStart => exact ⟨0, _, by omega, rfl, by simp, fun y hy => by rw [if_neg (by omega)]; simp [hy], h0⟩
    case round =>
      clear h0
      obtain ⟨j, ws, hj, rfl, hl, hv, hr⟩ := hrel
      have HV := Lib.hid hv
      have HL := Lib.hid hl
      clear hv hl
      by_cases hlt : j < N
      · have hl1 : j < l1.length := by have := HLE.out; omega
        obtain ⟨b2, o2, hbo, hb1, hlt1, hcell1⟩ := HC1.out (by omega); simp only [Option.some.injEq, Addr.mk.injEq, and_true] at hbo; obtain ⟨h1e, h2e⟩ := hbo; subst h1e h2e
        have q1 : wr.cell? ⟨b1, o1 + j, none⟩ = some (.int .u64 (l1[j]?.getD 0)) := (World.cell?_of_block (hr.block b1 hlt1)).trans (hcell1 j hl1)
        obtain ⟨x, hx⟩ : ∃ x, l1[j]?.getD 0 = x := ⟨_, rfl⟩
        rw [hx] at q1
        have HX := Lib.hid hx
        clear hx hcell1
        go_wp2_with fail
        refine (Store_yes ((N : Int) + (j : Int)) x hr (by rw [HL.out]; exact within_yes (by omega))).mono ?_
        rintro e w1 ⟨rfl, h1⟩
        rw [show ((N : Int) + (j : Int)).toNat = N + j by omega, wrap_id (by omega) (by omega)] at h1
        go_wp2_with fail
        go_roundw
        case rel =>
          refine ⟨j + 1, ws.set (N + j) x, by omega, by go_num, by rw [List.length_set]; exact HL.out, fun y hy => ?_, by simpa using h1⟩
          by_cases hyj : y = N + j
          · subst hyj; rw [List.getElem?_set_self (by rw [HL.out]; omega), if_pos (by omega), show N + j - N = j by omega, HX.out]; rfl
          · rw [List.getElem?_set_ne (by omega), HV.out y hy]
            by_cases hc : N ≤ y ∧ y < N + j
            · rw [if_pos hc, if_pos (by omega)]
            · rw [if_neg hc, if_neg (by omega)]
        case measure => simp [intOf]; omega
      · have hjN : j = N := by omega
        subst hjN
        have d0 : 0 ≤ m % ((j : Int) + 1) := Int.emod_nonneg _ (by omega)
        have d1 : m % ((j : Int) + 1) < (j : Int) + 1 := Int.emod_lt_of_pos _ (by omega)
        go_wp2_with fail
        generalize m % ((j : Int) + 1) = kk at d0 d1 ⊢
        obtain ⟨K, rfl⟩ : ∃ S : Nat, kk = (S : Int) := ⟨kk.toNat, by omega⟩
        have hK : K ≤ j := by omega
        refine (Copy_yes (j : Int) 0 (K : Int) hr (by rw [HL.out, within_yes (by omega), within_yes (by omega)]; rfl)).mono ?_
        rintro e w1 ⟨rfl, h1⟩
        rw [show ((j : Int) : Int).toNat = j by omega, show (0 : Int).toNat = 0 from rfl, Int.toNat_natCast, wrap_id (by omega) (by omega)] at h1
        have g1 := cpy_get (ws := ws) (i := j) (j := 0) (k := K) (by rw [HL.out]; omega) (by rw [HL.out]; omega)
        have l1' : (cpy ws j 0 K).length = 3 * j := by rw [cpy_len (by rw [HL.out]; omega) (by rw [HL.out]; omega)]; exact HL.out
        generalize cpy ws j 0 K = ws1 at h1 g1 l1'
        have G1 := Lib.hid g1
        have L1 := Lib.hid l1'
        clear g1 l1' hr
        go_wp2_with fail
        refine (Zero_yes (j : Int) (K : Int) h1 (by rw [L1.out]; exact within_yes (by omega))).mono ?_
        rintro e w2 ⟨rfl, h2⟩
        rw [show ((j : Int) : Int).toNat = j by omega, Int.toNat_natCast, wrap_id (by omega) (by omega)] at h2
        have g2 := zro_get (ws := ws1) (i := j) (k := K) (by rw [L1.out]; omega)
        have l2' : (zro ws1 j K).length = 3 * j := by rw [zro_len (by rw [L1.out]; omega)]; exact L1.out
        generalize zro ws1 j K = ws2 at h2 g2 l2'
        have G2 := Lib.hid g2
        have L2 := Lib.hid l2'
        clear g2 l2' h1
        go_wp2_with fail
        refine (Copy_yes 0 (j : Int) (K : Int) h2 (by rw [L2.out, within_yes (by omega), within_yes (by omega)]; rfl)).mono ?_
        rintro e w3 ⟨rfl, h3⟩
        rw [show ((j : Int) : Int).toNat = j by omega, show (0 : Int).toNat = 0 from rfl, Int.toNat_natCast, wrap_id (by omega) (by omega)] at h3
        have g3 := cpy_get (ws := ws2) (i := 0) (j := j) (k := K) (by rw [L2.out]; omega) (by rw [L2.out]; omega)
        have l3' : (cpy ws2 0 j K).length = 3 * j := by rw [cpy_len (by rw [L2.out]; omega) (by rw [L2.out]; omega)]; exact L2.out
        generalize cpy ws2 0 j K = ws3 at h3 g3 l3'
        have hfin : ∀ y, y < j → ws3[j + y]?.getD 0 = l1[y]?.getD 0 ∧ ws3[2 * j + y]?.getD 0 = 0 := fun y hy => by
          constructor
          · rw [g3]
            by_cases hc : y < K
            · rw [if_pos (by omega), show 0 + (j + y - j) = y by omega, G2.out, if_neg (by omega), G1.out, if_pos (by omega), show j + (y - 0) = j + y by omega, HV.out _ (by omega), if_pos (by omega), show j + y - j = y by omega]
            · rw [if_neg (by omega), G2.out, if_neg (by omega), G1.out, if_neg (by omega), HV.out _ (by omega), if_pos (by omega), show j + y - j = y by omega]
          · rw [g3, if_neg (by omega), G2.out, if_neg (by omega), G1.out, if_neg (by omega), HV.out _ (by omega), if_neg (by omega)]
        have F := Lib.hid hfin
        have L3 := Lib.hid l3'
        clear g3 l3' h2 hfin
        go_wp2_with fail
        obtain ⟨wo, ho⟩ : ∃ wo : World, wo = wr := ⟨_, rfl⟩
        clear ho
        go_loopw [9] (fun i wr => ∃ (y : Nat), y ≤ j ∧ i = .int .i64 y ∧ At w wr b ws3 (j + 5 * K + 2 * y)) (fun i _ => j - (intOf i).toNat)
        case atStart => exact ⟨0, by omega, rfl, by
          have e : ((j : Int) + 2 * (K : Int) + (K : Int) + 2 * (K : Int)) = (j : Int) + 5 * (K : Int) + 2 * ((0 : Nat) : Int) := by omega
          rw [e] at h3; exact h3⟩
        case round =>
          clear h3
          obtain ⟨y, hy, rfl, hr⟩ := hrel
          by_cases hlt : y < j
          · have hl1 : y < l1.length := by have := HLE.out; omega
            obtain ⟨b2, o2, hbo, hb1, hlt1, hcell1⟩ := HC1.out (by omega); simp only [Option.some.injEq, Addr.mk.injEq, and_true] at hbo; obtain ⟨h1e, h2e⟩ := hbo; subst h1e h2e
            have q1 : ∀ W' c, At w W' b ws3 c → W'.cell? ⟨b1, o1 + y, none⟩ = some (.int .u64 (l1[y]?.getD 0)) := fun W' c h => (World.cell?_of_block (h.block b1 hlt1)).trans (hcell1 y hl1)
            obtain ⟨f1, f2⟩ := F.out y hlt
            generalize l1[y]?.getD 0 = x at q1 f1
            have F1 := Lib.hid f1
            have F2 := Lib.hid f2
            have HQ := Lib.hid q1
            clear f1 f2 q1 hcell1
            go_wp2_with fail
            refine (Load_yes ((j : Int) + (y : Int)) hr (by rw [L3.out]; exact within_yes (by omega))).mono ?_
            rintro e w4 ⟨rfl, h4⟩
            rw [show ((j : Int) + (y : Int)).toNat = j + y by omega, F1.out]
            go_wp2_with fail
            refine (Load_yes (2 * (j : Int) + (y : Int)) h4 (by rw [L3.out]; exact within_yes (by omega))).mono ?_
            rintro e w5 ⟨rfl, h5⟩
            rw [show (2 * (j : Int) + (y : Int)).toNat = 2 * j + y by omega, F2.out]
            have q5 := HQ.out w5 _ h5
            go_wp2_with fail
            go_roundw
            case rel => exact ⟨y + 1, by omega, by go_num, by
              rw [wrap_id (n := _ + 2 * (y : Int) + 1) (by omega) (by omega), wrap_id (by omega) (by omega)] at h5
              have e : ((j : Int) + 5 * (K : Int) + 2 * (y : Int) + 1 + 1) = (j : Int) + 5 * (K : Int) + 2 * ((y + 1 : Nat) : Int) := by omega
              rw [e] at h5; exact h5⟩
            case measure => simp [intOf]; omega
          · have hyj : y = j := by omega
            subst hyj
            go_wp2_with fail
            refine (awake_at hr).mono ?_
            rintro e w4 ⟨rfl, h4⟩
            go_wp2_with fail
            refine (Count_at h4).mono ?_
            rintro e w5 ⟨rfl, h5⟩
            go_wp2_with fail
            go_ret
            first | exact ⟨rfl, h5.below⟩ | exact ⟨by simp, h5.below⟩ | exact ⟨by simp; omega, h5.below⟩
  · have hd : decide (100 < (l1.length : Int)) = false := by simp; omega
    have hNe : l1.length = N := by rw [← hN, if_neg hbig]
    rw [hNe] at hm1 ⊢
    clear hN hbig hd
    have hd : decide (100 < (N : Int)) = false := by simp; omega
    clear hNe
    go_enter Try.func7, Try.ntmps7
    go_wp2_with fail
    refine (New_at (3 * (N : Int)) w).mono ?_
    rintro e w0 ⟨b, rfl, h0⟩
    rw [HN0.out] at h0
    go_wp2_with fail
    go_loopw [7] (fun i wr => ∃ (j : Nat) (ws : List Int), j ≤ N ∧ i = .int .i64 j ∧ ws.length = 3 * N ∧ (∀ y, y < 3 * N → ws[y]?.getD 0 = if N ≤ y ∧ y < N + j then l1[y - N]?.getD 0 else 0) ∧ At w wr b ws j) (fun i _ => N - (intOf i).toNat)
    case atStart => exact ⟨0, _, by omega, rfl, by simp, fun y hy => by rw [if_neg (by omega)]; simp [hy], h0⟩
    case round =>
      clear h0
      obtain ⟨j, ws, hj, rfl, hl, hv, hr⟩ := hrel
      have HV := Lib.hid hv
      have HL := Lib.hid hl
      clear hv hl
      by_cases hlt : j < N
      · have hl1 : j < l1.length := by have := HLE.out; omega
        obtain ⟨b1, o1, rfl, hb1, hlt1, hcell1⟩ := HC1.out (by omega)
        have q1 : wr.cell? ⟨b1, o1 + j, none⟩ = some (.int .u64 (l1[j]?.getD 0)) := (World.cell?_of_block (hr.block b1 hlt1)).trans (hcell1 j hl1)
        obtain ⟨x, hx⟩ : ∃ x, l1[j]?.getD 0 = x := ⟨_, rfl⟩
        rw [hx] at q1
        have HX := Lib.hid hx
        clear hx hcell1
        go_wp2_with fail
        refine (Store_yes ((N : Int) + (j : Int)) x hr (by rw [HL.out]; exact within_yes (by omega))).mono ?_
        rintro e w1 ⟨rfl, h1⟩
        rw [show ((N : Int) + (j : Int)).toNat = N + j by omega, wrap_id (by omega) (by omega)] at h1
        go_wp2_with fail
        go_roundw
        case rel =>
          refine ⟨j + 1, ws.set (N + j) x, by omega, by go_num, by rw [List.length_set]; exact HL.out, fun y hy => ?_, by simpa using h1⟩
          by_cases hyj : y = N + j
          · subst hyj; rw [List.getElem?_set_self (by rw [HL.out]; omega), if_pos (by omega), show N + j - N = j by omega, HX.out]; rfl
          · rw [List.getElem?_set_ne (by omega), HV.out y hy]
            by_cases hc : N ≤ y ∧ y < N + j
            · rw [if_pos hc, if_pos (by omega)]
            · rw [if_neg hc, if_neg (by omega)]
        case measure => simp [intOf]; omega
      · have hjN : j = N := by omega
        subst hjN
        have d0 : 0 ≤ m % ((j : Int) + 1) := Int.emod_nonneg _ (by omega)
        have d1 : m % ((j : Int) + 1) < (j : Int) + 1 := Int.emod_lt_of_pos _ (by omega)
        go_wp2_with fail
        generalize m % ((j : Int) + 1) = kk at d0 d1 ⊢
        obtain ⟨K, rfl⟩ : ∃ S : Nat, kk = (S : Int) := ⟨kk.toNat, by omega⟩
        have hK : K ≤ j := by omega
        refine (Copy_yes (j : Int) 0 (K : Int) hr (by rw [HL.out, within_yes (by omega), within_yes (by omega)]; rfl)).mono ?_
        rintro e w1 ⟨rfl, h1⟩
        rw [show ((j : Int) : Int).toNat = j by omega, show (0 : Int).toNat = 0 from rfl, Int.toNat_natCast, wrap_id (by omega) (by omega)] at h1
        have g1 := cpy_get (ws := ws) (i := j) (j := 0) (k := K) (by rw [HL.out]; omega) (by rw [HL.out]; omega)
        have l1' : (cpy ws j 0 K).length = 3 * j := by rw [cpy_len (by rw [HL.out]; omega) (by rw [HL.out]; omega)]; exact HL.out
        generalize cpy ws j 0 K = ws1 at h1 g1 l1'
        have G1 := Lib.hid g1
        have L1 := Lib.hid l1'
        clear g1 l1' hr
        go_wp2_with fail
        refine (Zero_yes (j : Int) (K : Int) h1 (by rw [L1.out]; exact within_yes (by omega))).mono ?_
        rintro e w2 ⟨rfl, h2⟩
        rw [show ((j : Int) : Int).toNat = j by omega, Int.toNat_natCast, wrap_id (by omega) (by omega)] at h2
        have g2 := zro_get (ws := ws1) (i := j) (k := K) (by rw [L1.out]; omega)
        have l2' : (zro ws1 j K).length = 3 * j := by rw [zro_len (by rw [L1.out]; omega)]; exact L1.out
        generalize zro ws1 j K = ws2 at h2 g2 l2'
        have G2 := Lib.hid g2
        have L2 := Lib.hid l2'
        clear g2 l2' h1
        go_wp2_with fail
        refine (Copy_yes 0 (j : Int) (K : Int) h2 (by rw [L2.out, within_yes (by omega), within_yes (by omega)]; rfl)).mono ?_
        rintro e w3 ⟨rfl, h3⟩
        rw [show ((j : Int) : Int).toNat = j by omega, show (0 : Int).toNat = 0 from rfl, Int.toNat_natCast, wrap_id (by omega) (by omega)] at h3
        have g3 := cpy_get (ws := ws2) (i := 0) (j := j) (k := K) (by rw [L2.out]; omega) (by rw [L2.out]; omega)
        have l3' : (cpy ws2 0 j K).length = 3 * j := by rw [cpy_len (by rw [L2.out]; omega) (by rw [L2.out]; omega)]; exact L2.out
        generalize cpy ws2 0 j K = ws3 at h3 g3 l3'
        have hfin : ∀ y, y < j → ws3[j + y]?.getD 0 = l1[y]?.getD 0 ∧ ws3[2 * j + y]?.getD 0 = 0 := fun y hy => by
          constructor
          · rw [g3]
            by_cases hc : y < K
            · rw [if_pos (by omega), show 0 + (j + y - j) = y by omega, G2.out, if_neg (by omega), G1.out, if_pos (by omega), show j + (y - 0) = j + y by omega, HV.out _ (by omega), if_pos (by omega), show j + y - j = y by omega]
            · rw [if_neg (by omega), G2.out, if_neg (by omega), G1.out, if_neg (by omega), HV.out _ (by omega), if_pos (by omega), show j + y - j = y by omega]
          · rw [g3, if_neg (by omega), G2.out, if_neg (by omega), G1.out, if_neg (by omega), HV.out _ (by omega), if_neg (by omega)]
        have F := Lib.hid hfin
        have L3 := Lib.hid l3'
        clear g3 l3' h2 hfin
        go_wp2_with fail
        obtain ⟨wo, ho⟩ : ∃ wo : World, wo = wr := ⟨_, rfl⟩
        clear ho
        go_loopw [9] (fun i wr => ∃ (y : Nat), y ≤ j ∧ i = .int .i64 y ∧ At w wr b ws3 (j + 5 * K + 2 * y)) (fun i _ => j - (intOf i).toNat)
        case atStart => exact ⟨0, by omega, rfl, by
          have e : ((j : Int) + 2 * (K : Int) + (K : Int) + 2 * (K : Int)) = (j : Int) + 5 * (K : Int) + 2 * ((0 : Nat) : Int) := by omega
          rw [e] at h3; exact h3⟩
        case round =>
          clear h3
          obtain ⟨y, hy, rfl, hr⟩ := hrel
          by_cases hlt : y < j
          · have hl1 : y < l1.length := by have := HLE.out; omega
            obtain ⟨b1, o1, rfl, hb1, hlt1, hcell1⟩ := HC1.out (by omega)
            have q1 : ∀ W' c, At w W' b ws3 c → W'.cell? ⟨b1, o1 + y, none⟩ = some (.int .u64 (l1[y]?.getD 0)) := fun W' c h => (World.cell?_of_block (h.block b1 hlt1)).trans (hcell1 y hl1)
            obtain ⟨f1, f2⟩ := F.out y hlt
            generalize l1[y]?.getD 0 = x at q1 f1
            have F1 := Lib.hid f1
            have F2 := Lib.hid f2
            have HQ := Lib.hid q1
            clear f1 f2 q1 hcell1
            go_wp2_with fail
            refine (Load_yes ((j : Int) + (y : Int)) hr (by rw [L3.out]; exact within_yes (by omega))).mono ?_
            rintro e w4 ⟨rfl, h4⟩
            rw [show ((j : Int) + (y : Int)).toNat = j + y by omega, F1.out]
            go_wp2_with fail
            refine (Load_yes (2 * (j : Int) + (y : Int)) h4 (by rw [L3.out]; exact within_yes (by omega))).mono ?_
            rintro e w5 ⟨rfl, h5⟩
            rw [show (2 * (j : Int) + (y : Int)).toNat = 2 * j + y by omega, F2.out]
            have q5 := HQ.out w5 _ h5
            go_wp2_with fail
            go_roundw
            case rel => exact ⟨y + 1, by omega, by go_num, by
              rw [wrap_id (n := _ + 2 * (y : Int) + 1) (by omega) (by omega), wrap_id (by omega) (by omega)] at h5
              have e : ((j : Int) + 5 * (K : Int) + 2 * (y : Int) + 1 + 1) = (j : Int) + 5 * (K : Int) + 2 * ((y + 1 : Nat) : Int) := by omega
              rw [e] at h5; exact h5⟩
            case measure => simp [intOf]; omega
          · have hyj : y = j := by omega
            subst hyj
            go_wp2_with fail
            refine (awake_at hr).mono ?_
            rintro e w4 ⟨rfl, h4⟩
            go_wp2_with fail
            refine (Count_at h4).mono ?_
            rintro e w5 ⟨rfl, h5⟩
            go_wp2_with fail
            go_ret
            first | exact ⟨rfl, h5.below⟩ | exact ⟨by simp, h5.below⟩ | exact ⟨by simp; omega, h5.below⟩
end Go.Proofs.Ytfaffpmmjlddeaa.Ar
