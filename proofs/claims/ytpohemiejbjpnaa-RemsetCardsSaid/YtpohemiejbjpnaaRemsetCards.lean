/- RemsetCards as a contract. Condition: the list reads as a list. -/
import Derived.Test.YtpohemiejbjpnaaMarkMap
import Derived.Deep.LoopGhost
set_option linter.unusedVariables false
set_option linter.unusedSimpArgs false
namespace Go.Proofs.Ytpohemiejbjpnaa.Re
open Go.RowKit Go.Proofs.Ytpohemiejbjpnaa.W Go.Proofs.Ytpohemiejbjpnaa.Cd Go.Proofs.Ytpohemiejbjpnaa.Bf Go.Proofs.Ytpohemiejbjpnaa.Sm

abbrev cs (nm tm : List Bool) : RS := ⟨0, 256, 16, 0, [], nm, [], tm⟩
theorem cs_inn (nm tm : List Bool) {a : Int} (h0 : 0 ≤ a) (h1 : a ≤ 255) : (cs nm tm).inn a = true := by unfold RS.inn; simp; omega
theorem cs_add (nm tm : List Bool) {a : Int} {j : Nat} (h0 : 0 ≤ a) (h1 : a ≤ 255) (hj : a / 16 = (j : Int)) : (cs nm tm).add a = cs (nm.set j true) tm := by
  unfold RS.add
  rw [cs_inn _ _ h0 h1, if_pos rfl, if_neg (by show ¬ ((0 : Nat) : Int) < Bf.clampN 0; decide)]
  rw [show (ncd (cs nm tm)).of_ a = (j : Int) from by rw [of_in (by show (0 : Int) ≤ a; exact h0) (by show a < 0 + 256; omega), show a - 0 = a by omega]; exact hj]
  rfl
theorem cs_none : (Cd.none_ 0 256 (Cd.clamp1 16)).m = List.replicate 16 false := rfl
theorem cs_flip (nm tm : List Bool) (h : (cs nm tm).left = 0) : (cs nm tm).flip = cs (List.replicate 16 false) nm := by
  unfold RS.flip
  rw [if_neg (by omega)]
  show (⟨0, 256, 16, 0, [], (Cd.none_ 0 256 (Cd.clamp1 16)).m, [], nm⟩ : RS) = _
  rw [cs_none]
theorem cs_part {nm tm : List Bool} (h : tm.length = 16) {n : Nat} (hn : n < 16) : (tcd (cs nm tm)).part (n : Int) = (16 * (n : Int), 16 * (n : Int) + 16) := by
  unfold Cd.part
  rw [if_pos ⟨by omega, by simp only [h]; omega⟩]
  simp only [show Cd.clamp1 16 = 16 from by decide]
  rw [if_neg (by omega)]
  ext <;> simp only [] <;> omega

set_option maxHeartbeats 4000000 in
set_option maxRecDepth 20000 in
theorem Cards_calls {v1 : Value} {l1 : List Int} (w : World) (g1 : SL w (fun i => i < w.heap.size) .u8 v1 l1) (q1 : ∀ x ∈ l1, 0 ≤ x ∧ x ≤ 255) :
    Calls Try.prog 7 #[v1] w fun e w' => e = .returned (.bool true) ∧ Below w.heap.size w w' := by
  obtain ⟨A1, c1, rfl, hm1, hc1⟩ := g1
  have HC1 := Lib.hid hc1
  have Q1 := Lib.hid q1
  clear hc1 q1
  have hmm := @run_makeMap Try.prog
  go_enter Try.func7, Try.ntmps7
  go_wp2_with fail
  refine (New_sep 0 256 16 0 (Sep.nil w)).mono ?_
  rintro e w1 ⟨b, rfl, h1⟩
  replace h1 : Sep w w1 [Rms b (cs (List.replicate 16 false) (List.replicate 16 false))] := h1
  have h2 := h1.new_map ik
  simp only [List.cons_append, List.nil_append] at h2
  obtain ⟨G, hG⟩ : ∃ G, w1.heap.size = G := ⟨_, rfl⟩
  rw [hG] at h2
  have HG := Lib.hid hG
  clear hG
  go_wp2_with fail
  rw [HG.out]
  clear HG hmm
  go_loopg [5] 80 (fun gk i wr => ∃ (k : Nat) (m : List Bool) (al : List (Int × Value)), k + gk = 80 ∧ i = .int .i64 k ∧ WR 16 m al ∧ Sep w wr [Rms b (cs m (List.replicate 16 false)), mapP ik G al])
  case atStart => exact ⟨0, _, _, rfl, rfl, WR.new 16, h2⟩
  case round =>
    clear h1 h2
    obtain ⟨k, m, al, hk, rfl, hwr, h⟩ := hrel
    have HWR := Lib.hid hwr
    clear hwr
    by_cases hc : k < l1.length ∧ k < 80
    · obtain ⟨hl1, hl2⟩ := hc
      obtain ⟨b1, o1, rfl, hb1, hlt1, hcell1⟩ := HC1.out (by omega)
      have d0 : wr.cell? ⟨b1, o1 + k, none⟩ = some (.int .u8 (l1[k]?.getD 0)) := (World.cell?_of_block (h.block b1 hlt1)).trans (hcell1 k hl1)
      have hx := Q1.out (l1[k]?.getD 0) (by rw [List.getElem?_eq_getElem hl1]; exact List.getElem_mem _)
      have DD : Hid (∀ W l, Sep w W l → W.cell? ⟨b1, o1 + k, none⟩ = some (.int .u8 (l1[k]?.getD 0))) := fun W l hW => (World.cell?_of_block (SepO.block hW b1 hlt1)).trans (hcell1 k hl1)
      generalize l1[k]?.getD 0 = x at d0 hx DD
      obtain ⟨hx0, hx1⟩ := hx
      clear hcell1
      obtain ⟨j, hj⟩ : ∃ j : Nat, x / 16 = (j : Int) := ⟨(x / 16).toNat, by omega⟩
      have hj16 : j < 16 := by omega
      have HJ := Lib.hid hj
      clear hj
      go_wp2_with fail
      refine (Add_sep x h 0 rfl (by omega) (by omega)).mono ?_
      rintro e w3 ⟨rfl, h3⟩
      rw [cs_add _ _ hx0 hx1 HJ.out] at h3
      rw [cs_inn _ _ hx0 hx1]
      replace h3 : Sep w w3 [Rms b (cs (m.set j true) (List.replicate 16 false)), mapP ik G al] := h3
      have d3 := DD.out w3 _ h3
      clear d0
      go_wp2_with (at_mapUpdate; refine wpList_update_sep rfl _ _ _ 43 rfl Try.underlying43 h3 1 rfl (x / 16) (.bool true) rfl rfl rfl ?_)
      intro w5 h5
      rw [HJ.out] at h5
      go_wp2_with fail
      go_roundg (gk - 1)
      case measure => omega
      case rel => exact ⟨k + 1, m.set j true, _, by omega, by go_num, HWR.out.step hj16, h5⟩
    · have hw2 := HWR.out.2.1
      have hhere : (cs m (List.replicate 16 false)).here = (m.count true : Nat) := by unfold RS.here; simp
      have HH := Lib.hid hhere
      have hleft : (cs m (List.replicate 16 false)).left = 0 := by unfold RS.left; rw [rep_cnt]; rfl
      have HL := Lib.hid hleft
      have hcle : m.count true ≤ 16 := by have := List.count_le_length (a := true) (l := m); have := HWR.out.1; omega
      clear hw2 hhere hleft
      rcases (by omega : ¬ k < l1.length ∨ (k < l1.length ∧ ¬ k < 80)) with hx | ⟨hx, hx'⟩
      all_goals
        clear hc
        go_wp2_with fail
        refine (Len_sep h 0 rfl).mono ?_
        rintro e w6 ⟨rfl, h6⟩
        rw [HH.out]
        have hlen := fun ty => Mp.run_len (h6.mp 1 rfl) Try.underlying43 ty
        rw [HWR.out.2.1] at hlen
        have hne : (((m.count true : Nat) : Int) != ((m.count true : Nat) : Int)) = false := by simp
        go_wp2_with fail
        refine (Flip_sep h6 0 rfl).mono ?_
        rintro e w7 ⟨rfl, h7⟩
        rw [show decide ((cs m (List.replicate 16 false)).left ≤ 0) = true from by rw [HL.out]; rfl]
        rw [cs_flip _ _ HL.out] at h7
        replace h7 : Sep w w7 [Rms b (cs (List.replicate 16 false) m), mapP ik G al] := h7
        have HCL := Lib.hid hcle
        clear hlen hne h h6 hcle
        go_wp2_with fail
        go_loopg [6, 7] 17 (fun gj la q wx => ∃ (i : Nat) (last : Int) (m2 : List Bool), i + gj = 17 ∧ m2.length = 16 ∧ m2.count true + i = m.count true ∧ q = .int .i64 i ∧ la = .int .i64 last ∧ -1 ≤ last ∧ last ≤ 240 ∧ (∀ j : Nat, m2[j]?.getD false = true → last < 16 * (j : Int) ∧ m[j]?.getD false = true) ∧ Sep w wx [Rms b (cs (List.replicate 16 false) m2), mapP ik G al])
        case atStart => exact ⟨0, -1, m, rfl, HWR.out.1, by omega, rfl, rfl, by omega, by omega, fun j hj => ⟨by omega, hj⟩, h7⟩
        case round =>
          clear h7
          obtain ⟨i, last, m2, hi, hm2, hcnt, rfl, rfl, la0, la1, hrest, h⟩ := hrel
          have HR := Lib.hid hrest
          have HM2 := Lib.hid hm2
          have HCN := Lib.hid hcnt
          have HI := Lib.hid hi
          have hi9 : i ≤ 16 := by have := HCL.out; omega
          clear hrest hm2 hcnt hi
          have hlen := fun ty => Mp.run_len (h.mp 1 rfl) Try.underlying43 ty
          rw [HWR.out.2.1] at hlen
          cases hf : fstI m2 with
          | none =>
            have hspec := fstI_spec m2
            rw [hf] at hspec
            have hz := none_cnt hspec
            have hie : i = m.count true := by have := HCN.out; omega
            have hsaid : (cs (List.replicate 16 false) m2).said = ((0, 0), (false, false)) := by simp [RS.said, hf]
            have hlt : decide (i < m.count true) = false := by simp; omega
            have HSD := Lib.hid hsaid
            clear hz hie hspec hsaid hf
            go_wp2_with fail
            clear hlen hlt
            refine (Next_sep h 0 rfl).mono ?_
            rintro e w8 ⟨rfl, h8⟩
            rw [HSD.out]
            go_wp2_with fail
            refine (awake_sep h8).mono ?_
            rintro e w9 ⟨rfl, h9⟩
            go_wp2_with fail
            go_ret
            exact ⟨by simp, h9.below⟩
          | some n =>
            have hspec := fstI_spec m2
            rw [hf] at hspec
            obtain ⟨f1, f2, f3, f4⟩ := hspec
            obtain ⟨f6, f7⟩ := HR.out n f3
            rw [HM2.out] at f2
            have hcu := cnt_unset m2 n f3
            have hlt : decide (i < m.count true) = true := by have := HCN.out; simp; omega
            have hsaid : (cs (List.replicate 16 false) m2).said = ((16 * (n : Int), 16 * (n : Int) + 16), (true, true)) := by
              have := cs_part (nm := List.replicate 16 false) HM2.out f2
              simp only [RS.said, hf, this]
            have hnext : (cs (List.replicate 16 false) m2).next = cs (List.replicate 16 false) (m2.set n false) := by simp only [RS.next, hf]
            have hlk : (mget al (n : Int)).getD (.bool false) = .bool true := by
              rw [HWR.out.2.2, isM_nat, f7]; rfl
            have HSD := Lib.hid hsaid
            have HNX := Lib.hid hnext
            have HCU := Lib.hid hcu
            have HF4 := Lib.hid f4
            have HLK := Lib.hid hlk
            clear hsaid hnext hcu f4 f3 f7 f1 hlk hf
            go_wp2_with fail
            clear hlen hlt
            refine (Next_sep h 0 rfl).mono ?_
            rintro e w8 ⟨rfl, h8⟩
            rw [HSD.out]
            rw [HNX.out] at h8
            replace h8 : Sep w w8 [Rms b (cs (List.replicate 16 false) (m2.set n false)), mapP ik G al] := h8
            have hlook := Mp.run_lookup (h8.mp 1 rfl) Try.underlying43 zero_bool (n : Int)
            rw [HLK.out] at hlook
            replace hlook : (Instr.lookup 43 (.map (some G)) (.int .i64 (n : Int)) false).run Try.prog w8 = .ok (.bool true) w8 := hlook
            have e1 : (16 * (n : Int)) % 16 = 0 := by omega
            have e2 : (16 * (n : Int)) / 16 = (n : Int) := by omega
            have e3 : (16 * (n : Int) + 16 != 16 * (n : Int) + 16) = false := by simp
            have e4 : decide (16 * (n : Int) ≤ last) = false := by simp; omega
            go_wp2_with fail
            go_roundg (gk - 1)
            case measure => have := HI.out; omega
            case rel =>
              clear e1 e2 e3 e4
              refine ⟨i + 1, 16 * (n : Int), m2.set n false, by have := HI.out; omega, by rw [List.length_set]; exact HM2.out, by have := HCU.out; have := HCN.out; omega, by go_num, rfl, by omega, by omega, fun j hj => ?_, h8⟩
              by_cases hjn : j = n
              · subst hjn
                rw [List.getElem?_set_self (by rw [HM2.out]; exact f2)] at hj
                cases hj
              · rw [List.getElem?_set_ne (Ne.symm hjn)] at hj
                refine ⟨?_, (HR.out j hj).2⟩
                rcases Nat.lt_or_ge j n with hl | hl
                · have := HF4.out j (by simp) hl
                  rw [this] at hj
                  cases hj
                · omega
end Go.Proofs.Ytpohemiejbjpnaa.Re
