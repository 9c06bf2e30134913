/- RemsetAll as a contract. Condition: the list reads as a list. -/
import Derived.Test.YtpohemiejbjpnaaRemsetAllPure
import Derived.Deep.DeepCutAuto
import Derived.Deep.LoopGhost
set_option linter.unusedVariables false
set_option linter.unusedSimpArgs false
namespace Go.Proofs.Ytpohemiejbjpnaa.Re
open Go.RowKit Go.Proofs.Ytpohemiejbjpnaa.W Go.Proofs.Ytpohemiejbjpnaa.Cd Go.Proofs.Ytpohemiejbjpnaa.Bf Go.Proofs.Ytpohemiejbjpnaa.Sm

set_option maxHeartbeats 4000000 in
set_option maxRecDepth 20000 in
theorem All_calls {v1 : Value} {l1 : List Int} (q : Int) (w : World) (g1 : SL w (fun i => i < w.heap.size) .u16 v1 l1) (q1 : ∀ x ∈ l1, 0 ≤ x ∧ x ≤ 65535) (b0 : 0 ≤ q) (b1 : q ≤ 255) :
    Calls Try.prog 4 #[v1, .int .u8 q] w fun e w' => e = .returned (.bool true) ∧ Below w.heap.size w w' := by
  obtain ⟨A1, c1, rfl, hm1, hc1⟩ := g1
  have HC1 := Lib.hid hc1
  have Q1 := Lib.hid q1
  clear hc1 q1
  have hmm := @run_makeMap Try.prog
  have y0 : 0 ≤ q % 12 := by omega
  have y1 : q % 12 < 12 := by omega
  go_enter Try.func4, Try.ntmps4
  go_wp2_with fail
  generalize q % 12 = mo at y0 y1 ⊢
  refine (New_sep 50 1000 32 mo (Sep.nil w)).mono ?_
  rintro e w1 ⟨b, rfl, h1⟩
  replace h1 : Sep w w1 [Rms b (rs mo [] (List.replicate 32 false) [] (List.replicate 32 false))] := h1
  have h2 := h1.new_map ik
  simp only [List.cons_append, List.nil_append] at h2
  obtain ⟨G, hG⟩ : ∃ G, w1.heap.size = G := ⟨_, rfl⟩
  rw [hG] at h2
  have HG := Lib.hid hG
  clear hG
  go_wp2_with fail
  rw [HG.out]
  clear HG h1
  go_loopg [7] 60 (fun gk i wr => ∃ (k : Nat) (nl : List Int) (nm : List Bool) (al : List (Int × Value)) (C : Int → Int), k + gk = 60 ∧ i = .int .i64 k ∧ P1 C nl nm ∧ CM al C ∧ (∀ x, C x ≤ k) ∧ nl.length + nm.count true ≤ k ∧ Sep w wr [Rms b (rs mo nl nm [] (List.replicate 32 false)), mapP ik G al])
  case atStart => exact ⟨0, _, _, _, _, rfl, rfl, P1.new, CM.new, fun x => Int.le_refl 0, by rw [rep_cnt]; simp, h2⟩
  case round =>
    clear h2
    obtain ⟨k, nl, nm, al, C, hk, rfl, hp1, hcm, hck, hln, h⟩ := hrel
    have HP1 := Lib.hid hp1
    have HCM := Lib.hid hcm
    have HCK := Lib.hid hck
    have HLN := Lib.hid hln
    clear hp1 hcm hck hln
    by_cases hc : k < l1.length ∧ k < 60
    · obtain ⟨hl1, hl2⟩ := hc
      obtain ⟨b1, o1, rfl, hb1, hlt1, hcell1⟩ := HC1.out (by omega)
      have d0 : wr.cell? ⟨b1, o1 + k, none⟩ = some (.int .u16 (l1[k]?.getD 0)) := (World.cell?_of_block (h.block b1 hlt1)).trans (hcell1 k hl1)
      have hx := Q1.out (l1[k]?.getD 0) (by rw [List.getElem?_eq_getElem hl1]; exact List.getElem_mem _)
      generalize l1[k]?.getD 0 = x at d0 hx
      obtain ⟨hx0, hx1⟩ := hx
      clear hcell1 hmm
      have z0 : 0 ≤ x % 1100 := by omega
      have z1 : x % 1100 < 1100 := by omega
      go_wp2_with fail
      generalize x % 1100 = a at z0 z1 ⊢
      refine (Add_sep a h 0 rfl (by omega) (by omega)).mono ?_
      rintro e w3 ⟨rfl, h3⟩
      rcases (by omega : a < 50 ∨ (50 ≤ a ∧ 1050 ≤ a) ∨ (50 ≤ a ∧ a < 1050)) with ha | ⟨ha, ha'⟩ | ⟨ha, ha'⟩
      · have hin : (rs mo nl nm [] (List.replicate 32 false)).inn a = false := by rw [rs_inn]; simp; omega
        have hadd : (rs mo nl nm [] (List.replicate 32 false)).add a = rs mo nl nm [] (List.replicate 32 false) := by unfold RS.add; rw [hin]; rfl
        rw [hadd] at h3
        rw [hin]
        replace h3 : Sep w w3 [Rms b (rs mo nl nm [] (List.replicate 32 false)), mapP ik G al] := h3
        have e1 : decide (50 ≤ a) = false := by simp; omega
        clear hin hadd
        go_wp2_with fail
        go_roundg (gk - 1)
        case measure => omega
        case rel => exact ⟨k + 1, nl, nm, al, C, by omega, by go_num, HP1.out, HCM.out, fun y => by have := HCK.out y; omega, by have := HLN.out; omega, h3⟩
      · have hin : (rs mo nl nm [] (List.replicate 32 false)).inn a = false := by rw [rs_inn]; simp; omega
        have hadd : (rs mo nl nm [] (List.replicate 32 false)).add a = rs mo nl nm [] (List.replicate 32 false) := by unfold RS.add; rw [hin]; rfl
        rw [hadd] at h3
        rw [hin]
        replace h3 : Sep w w3 [Rms b (rs mo nl nm [] (List.replicate 32 false)), mapP ik G al] := h3
        have e1 : decide (50 ≤ a) = true := by simp; omega
        have e2 : decide (a < 1050) = false := by simp; omega
        clear hin hadd
        go_wp2_with fail
        go_roundg (gk - 1)
        case measure => omega
        case rel => exact ⟨k + 1, nl, nm, al, C, by omega, by go_num, HP1.out, HCM.out, fun y => by have := HCK.out y; omega, by have := HLN.out; omega, h3⟩
      · have hin : (rs mo nl nm [] (List.replicate 32 false)).inn a = true := by rw [rs_inn]; simp; omega
        obtain ⟨nl', nm', hadd, hp', hl'⟩ := HP1.out.step mo ha ha' [] (List.replicate 32 false)
        rw [hadd] at h3
        rw [hin]
        replace h3 : Sep w w3 [Rms b (rs mo nl' nm' [] (List.replicate 32 false)), mapP ik G al] := h3
        have e1 : decide (50 ≤ a) = true := by simp; omega
        have e2 : decide (a < 1050) = true := by simp; omega
        have hlook := Mp.run_lookup (h3.mp 1 rfl) Try.underlying39 zero_int a
        rw [HCM.out a] at hlook
        replace hlook : (Instr.lookup 39 (.map (some G)) (.int .i64 a) false).run Try.prog w3 = .ok (.int .i64 (C a)) w3 := hlook
        have hCa := HCK.out a
        have hCa0 := HP1.out.2.2.2 a
        obtain ⟨ca, hca⟩ : ∃ ca, C a = ca := ⟨_, rfl⟩
        rw [hca] at hlook hCa hCa0
        have HCA := Lib.hid hca
        have HP' := Lib.hid hp'
        have HL' := Lib.hid hl'
        clear hin hadd hp' hl' hca
        go_wp2_with (at_mapUpdate; refine wpList_update_sep rfl _ _ _ 39 rfl Try.underlying39 h3 1 rfl a (.int .i64 (ca + 1)) rfl rfl rfl ?_)
        intro w5 h5
        go_wp2_with fail
        go_roundg (gk - 1)
        case measure => omega
        case rel => exact ⟨k + 1, nl', nm', _, upd C a, by omega, by go_num, HP'.out, HCM.out.step a, fun y => by unfold upd; have := HCK.out y; have := HCK.out a; split <;> omega, by have := HL'.out; have := HLN.out; omega, by rw [HCA.out]; exact h5⟩
    · have hleft : (rs mo nl nm [] (List.replicate 32 false)).left = 0 := by unfold RS.left; rw [rep_cnt]; rfl
      have hflip : (rs mo nl nm [] (List.replicate 32 false)).flip = rs mo [] (List.replicate 32 false) nl nm := rs_flip _ _ _ _ _ hleft
      have HL := Lib.hid hleft
      have HF := Lib.hid hflip
      have hk9 : k ≤ 60 := by omega
      clear hleft hflip
      rcases (by omega : ¬ k < l1.length ∨ (k < l1.length ∧ ¬ k < 60)) with hx | ⟨hx, hx'⟩
      all_goals
        clear hc
        go_wp2_with fail
        refine (Flip_sep h 0 rfl).mono ?_
        rintro e w7 ⟨rfl, h7⟩
        rw [show decide ((rs mo nl nm [] (List.replicate 32 false)).left ≤ 0) = true from by rw [HL.out]; rfl]
        rw [HF.out] at h7
        replace h7 : Sep w w7 [Rms b (rs mo [] (List.replicate 32 false) nl nm), mapP ik G al] := h7
        have h8 := h7.new_map ik
        simp only [List.cons_append, List.nil_append] at h8
        obtain ⟨H, hH⟩ : ∃ H, w7.heap.size = H := ⟨_, rfl⟩
        rw [hH] at h8
        have HH := Lib.hid hH
        clear hH
        go_wp2_with fail
        rw [HH.out]
        clear HH h7 h HL HF hmm
        generalize w7.alloc (.map #[] 0) = w8 at h8 ⊢
        go_loopg [10] 200 (fun gj i wx => ∃ (j : Nat) (tl : List Int) (tm : List Bool) (tal : List (Int × Value)) (T : Int → Int), j + gj = 200 ∧ i = .int .i64 j ∧ P2 C T tl tm ∧ CM tal T ∧ (∀ x, T x ≤ j) ∧ tl.length + tm.count true + j ≤ 60 ∧ Sep w wx [Rms b (rs mo [] (List.replicate 32 false) tl tm), mapP ik G al, mapP ik H tal])
        case atStart => exact ⟨0, _, _, _, _, rfl, rfl, HP1.out.turn, CM.new, fun x => Int.le_refl 0, by have := HLN.out; omega, h8⟩
        case round =>
          clear h8
          obtain ⟨j, tl, tm, tal, T, hj, rfl, hp2, htm, htk, hlj, h⟩ := hrel
          have HP2 := Lib.hid hp2
          have HTM := Lib.hid htm
          have HTK := Lib.hid htk
          have HLJ := Lib.hid hlj
          have HJ := Lib.hid hj
          have hj9 : j ≤ 60 := by omega
          clear hp2 htm htk hlj hj
          by_cases hl0 : 0 < (rs mo [] (List.replicate 32 false) tl tm).left
          · obtain ⟨F, E, p, tl', tm', hsaid, hnext, ⟨f0, f1, f2, f3⟩, hpf, hp2', hl'⟩ := HP2.out.step mo [] (List.replicate 32 false) hl0
            have HSD := Lib.hid hsaid
            have HNX := Lib.hid hnext
            have HPF := Lib.hid hpf
            have HP2' := Lib.hid hp2'
            have HL' := Lib.hid hl'
            clear hsaid hnext hpf hp2' hl' hl0
            go_wp2_with fail
            refine (Next_sep h 0 rfl).mono ?_
            rintro e w9 ⟨rfl, h9⟩
            rw [HSD.out]
            rw [HNX.out] at h9
            replace h9 : Sep w w9 [Rms b (rs mo [] (List.replicate 32 false) tl' tm'), mapP ik G al, mapP ik H tal] := h9
            clear h
            obtain ⟨gz, rfl⟩ : ∃ x, x = gk := ⟨_, rfl⟩
            go_wp2_with fail
            go_loopg [15] (E - F).toNat (fun gi at_ wy => ∃ (x : Int) (tal' : List (Int × Value)), x + gi = E ∧ F ≤ x ∧ at_ = .int .i64 x ∧ CM tal' (tel T F x) ∧ Sep w wy [Rms b (rs mo [] (List.replicate 32 false) tl' tm'), mapP ik G al, mapP ik H tal'])
            case atStart => exact ⟨F, tal, by omega, Int.le_refl _, rfl, fun y => by rw [HTM.out y]; unfold tel; rw [if_neg (by omega)]; simp, h9⟩
            case round =>
              clear h9
              obtain ⟨x, tal', hxE, hxF, rfl, hcm', h⟩ := hrel
              have HXE := Lib.hid hxE
              have HCM' := Lib.hid hcm'
              have hxE' : x ≤ E := by omega
              clear hxE hcm'
              by_cases hxlt : x < E
              · have hTx : tel T F x x = T x := by unfold tel; rw [if_neg (by omega)]; omega
                have hlook := Mp.run_lookup (h.mp 2 rfl) Try.underlying39 zero_int x
                rw [HCM'.out x, hTx] at hlook
                replace hlook : (Instr.lookup 39 (.map (some H)) (.int .i64 x) false).run Try.prog wr = .ok (.int .i64 (T x)) wr := hlook
                have hTk := HTK.out x
                have hT0 := HP2.out.2.2.2 x
                obtain ⟨ta, hta⟩ : ∃ ta, T x = ta := ⟨_, rfl⟩
                rw [hta] at hlook hTk hT0 hTx
                have HTX := Lib.hid hTx
                clear hta hTx
                go_wp2_with (at_mapUpdate; refine wpList_update_sep rfl _ _ _ 39 rfl Try.underlying39 h 2 rfl x (.int .i64 (ta + 1)) rfl rfl rfl ?_)
                intro w10 h10
                go_wp2_with fail
                go_roundg (gk - 1)
                case measure => have := HXE.out; omega
                case rel =>
                  refine ⟨x + 1, _, by have := HXE.out; omega, by omega, rfl, ?_, h10⟩
                  have hst := HCM'.out.step x
                  rw [HTX.out] at hst
                  intro y
                  rw [hst y]
                  congr 1
                  unfold upd
                  by_cases hyx : y = x
                  · subst hyx
                    rw [if_pos rfl, HTX.out]
                    have := HTX.out
                    unfold tel at this ⊢
                    rw [if_neg (by omega)] at this
                    rw [if_pos (by omega)]
                    omega
                  · rw [if_neg hyx]
                    unfold tel
                    by_cases hy : F ≤ y ∧ y < x
                    · rw [if_pos hy, if_pos (by omega)]
                    · rw [if_neg hy, if_neg (by omega)]
              · have hxe : x = E := by omega
                have hcm2 : CM tal' (tel T F E) := hxe ▸ HCM'.out
                have HCM2 := Lib.hid hcm2
                have hT9 : ∀ y, tel T F E y ≤ j + 1 := fun y => by unfold tel; have := HTK.out y; split <;> omega
                have HT9 := Lib.hid hT9
                clear hxe hcm2 hT9
                cases p
                · obtain ⟨hE, hTF⟩ := HPF.out rfl
                  have hlook := Mp.run_lookup (h.mp 2 rfl) Try.underlying39 zero_int F
                  rw [HCM2.out F] at hlook
                  replace hlook : (Instr.lookup 39 (.map (some H)) (.int .i64 F) false).run Try.prog wr = .ok (.int .i64 (tel T F E F)) wr := hlook
                  have hlook2 := Mp.run_lookup (h.mp 1 rfl) Try.underlying39 zero_int F
                  rw [HCM.out F] at hlook2
                  replace hlook2 : (Instr.lookup 39 (.map (some G)) (.int .i64 F) false).run Try.prog wr = .ok (.int .i64 (C F)) wr := hlook2
                  have hTE : tel T F E F = T F + 1 := by unfold tel; rw [if_pos (by omega)]
                  have hd : decide (C F < tel T F E F) = false := by rw [hTE]; simp; omega
                  generalize tel T F E F = tt at hlook hd
                  generalize C F = cf at hlook2 hd
                  have hne : (E != F + 1) = false := by rw [hE]; simp
                  clear hE hTF hTE
                  go_wp2_with fail
                  go_roundg (gz - 1)
                  case measure => have := HJ.out; omega
                  case rel => exact ⟨j + 1, tl', tm', tal', _, by have := HJ.out; omega, by go_num, HP2'.out, HCM2.out, fun y => by have := HT9.out y; omega, by have := HL'.out; have := HLJ.out; omega, h⟩
                · go_wp2_with fail
                  go_roundg (gz - 1)
                  case measure => have := HJ.out; omega
                  case rel => exact ⟨j + 1, tl', tm', tal', _, by have := HJ.out; omega, by go_num, HP2'.out, HCM2.out, fun y => by have := HT9.out y; omega, by have := HL'.out; have := HLJ.out; omega, h⟩
          · have hl1 : (rs mo [] (List.replicate 32 false) tl tm).left = 0 := by have := (left_nonneg (rs mo [] (List.replicate 32 false) tl tm)).1; omega
            have hz : tl.length + tm.count true = 0 := by unfold RS.left at hl1; simp only [] at hl1; omega
            have hdone := HP2.out.done hz
            have hnn := next_none _ hl1
            have HNN := Lib.hid hnn
            have HDN := Lib.hid hdone
            have HL1 := Lib.hid hl1
            clear hl0 hl1 hz hdone hnn
            go_wp2_with fail
            refine (Next_sep h 0 rfl).mono ?_
            rintro e w9 ⟨rfl, h9⟩
            rw [HNN.out.1]
            rw [HNN.out.2] at h9
            replace h9 : Sep w w9 [Rms b (rs mo [] (List.replicate 32 false) tl tm), mapP ik G al, mapP ik H tal] := h9
            clear h
            go_wp2_with fail
            go_loopg [16] 1000 (fun gi at_ wy => ∃ x : Int, x + gi = 1050 ∧ 50 ≤ x ∧ at_ = .int .i64 x ∧ Sep w wy [Rms b (rs mo [] (List.replicate 32 false) tl tm), mapP ik G al, mapP ik H tal])
            case atStart => exact ⟨50, by omega, by omega, rfl, h9⟩
            case round =>
              clear h9
              obtain ⟨x, hxE, hx5, rfl, h⟩ := hrel
              have HXE := Lib.hid hxE
              have hxE' : x ≤ 1050 := by omega
              clear hxE
              by_cases hxlt : x < 1050
              · have hlook := Mp.run_lookup (h.mp 2 rfl) Try.underlying39 zero_int x
                rw [HTM.out x] at hlook
                replace hlook : (Instr.lookup 39 (.map (some H)) (.int .i64 x) false).run Try.prog wr = .ok (.int .i64 (T x)) wr := hlook
                have hlook2 := Mp.run_lookup (h.mp 1 rfl) Try.underlying39 zero_int x
                rw [HCM.out x] at hlook2
                replace hlook2 : (Instr.lookup 39 (.map (some G)) (.int .i64 x) false).run Try.prog wr = .ok (.int .i64 (C x)) wr := hlook2
                have hdx := HDN.out x
                generalize T x = tx at hlook hdx
                generalize C x = cx at hlook2 hdx
                by_cases hcx : 0 < cx
                · have hd1 : decide (0 < cx) = true := by simpa using hcx
                  have hd2 : (tx == 0) = false := by have := hdx hcx; simp; omega
                  clear hdx hcx
                  go_wp2_with fail
                  go_roundg (gk - 1)
                  case measure => have := HXE.out; omega
                  case rel => exact ⟨x + 1, by have := HXE.out; omega, by omega, rfl, h⟩
                · have hd1 : decide (0 < cx) = false := by simpa using hcx
                  clear hdx hcx
                  go_wp2_with fail
                  go_roundg (gk - 1)
                  case measure => have := HXE.out; omega
                  case rel => exact ⟨x + 1, by have := HXE.out; omega, by omega, rfl, h⟩
              · go_wp2_with fail
                refine (awake_sep h).mono ?_
                rintro e w12 ⟨rfl, h12⟩
                go_wp2_with fail
                refine (Left_sep h12 0 rfl).mono ?_
                rintro e w13 ⟨rfl, h13⟩
                rw [HL1.out]
                go_wp2_with fail
                go_ret
                exact ⟨by simp, h13.below⟩
end Go.Proofs.Ytpohemiejbjpnaa.Re
