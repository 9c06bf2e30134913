/- CardTimes as a contract. Condition: the list reads as a list. -/
import Derived.Test.YtoalianiedjoaaaCardSep
import Derived.Test.YtoalianiedjoaaaMaps
import Derived.Deep.DeepCutAuto
import Derived.Deep.LoopGhost
set_option linter.unusedVariables false
set_option linter.unusedSimpArgs false
namespace Go.Proofs.Ytoalianiedjoaaa.Cd
open Go.RowKit Go.Proofs.Ytoalianiedjoaaa.W Go.Proofs.Ytoalianiedjoaaa.Sm

def ik : KeyKind Try.prog 3 Int := intKeys Try.prog 3 .i64 Try.underlying3
theorem zero_bool (w : World) : (zeroValue 4).run Try.prog w = .ok (.bool false) w := by kernel_rfl

/-- A map that says just which marks are set. -/
def WR (m : List Bool) (al : List (Int × Value)) : Prop :=
  m.length = 100 ∧ al.length = m.count true ∧ ∀ x : Int, mget al x = if Cd.isMark ⟨0, 1000, 10, m⟩ x = true then some (.bool true) else none
theorem count_set (m : List Bool) (j : Nat) (h : j < m.length) : (m.set j true).count true = m.count true + (if m[j]?.getD false = true then 0 else 1) := by
  induction m generalizing j with
  | nil => simp at h
  | cons x xs ih =>
    cases j with
    | zero => cases x <;> simp
    | succ j =>
      simp only [List.set_cons_succ, List.count_cons, List.getElem?_cons_succ]
      rw [ih j (by simpa using h)]
      omega
theorem count_unset (m : List Bool) (j : Nat) (h : m[j]?.getD false = true) : (m.set j false).count true + 1 = m.count true := by
  induction m generalizing j with
  | nil => simp at h
  | cons x xs ih =>
    cases j with
    | zero => simp at h; subst h; simp
    | succ j =>
      simp only [List.set_cons_succ, List.count_cons, List.getElem?_cons_succ] at h ⊢
      have := ih j h
      omega
theorem rep_false (n i : Nat) : (List.replicate n false)[i]?.getD false = false := by
  rw [List.getElem?_replicate]; split <;> rfl
theorem WR.new : WR (List.replicate 100 false) [] := by
  refine ⟨by simp, by simp, fun x => ?_⟩
  have : Cd.isMark ⟨0, 1000, 10, List.replicate 100 false⟩ x = false := by
    unfold Cd.isMark
    split
    · exact rep_false 100 _
    · rfl
  rw [this]; rfl
theorem WR.step {m : List Bool} {al : List (Int × Value)} (h : WR m al) {j : Nat} (hj : j < 100) : WR (m.set j true) (mput al (j : Int) (.bool true)) := by
  obtain ⟨h1, h2, h3⟩ := h
  have hm : Cd.isMark ⟨0, 1000, 10, m⟩ (j : Int) = m[j]?.getD false := by unfold Cd.isMark; rw [if_pos (by omega)]; rfl
  refine ⟨by simpa using h1, ?_, fun x => ?_⟩
  · rw [len_mput, h3, hm, count_set m j (by omega), h2]
    cases m[j]?.getD false <;> simp
  · by_cases hx : x = (j : Int)
    · subst hx
      rw [mget_put_same]
      have : Cd.isMark ⟨0, 1000, 10, m.set j true⟩ (j : Int) = true := by
        unfold Cd.isMark; rw [if_pos (by omega)]; simp [show j < m.length by omega]
      rw [this]; rfl
    · rw [mget_put_other _ hx, h3]
      have : Cd.isMark ⟨0, 1000, 10, m.set j true⟩ x = Cd.isMark ⟨0, 1000, 10, m⟩ x := by
        unfold Cd.isMark
        split
        · simp only []
          rw [List.getElem?_set_ne (by omega)]
        · rfl
      rw [this]
theorem all_false {m : List Bool} (h : IsFirst m 0 none) : m.count true = 0 := by
  rw [List.count_eq_zero]
  intro hm
  obtain ⟨i, hi, e⟩ := List.getElem_of_mem hm
  have := h i (by omega)
  rw [List.getElem?_eq_getElem hi, e] at this
  cases this

set_option maxHeartbeats 4000000 in
set_option maxRecDepth 20000 in
theorem Times_calls {v1 : Value} {l1 : List Int} (w : World) (g1 : SL w (fun i => i < w.heap.size) .u16 v1 l1) (q1 : ∀ x ∈ l1, 0 ≤ x ∧ x ≤ 65535) :
    Calls Try.prog 11 #[v1] w fun e w' => e = .returned (.bool true) ∧ Below w.heap.size w w' := by
  obtain ⟨A1, c1, rfl, hm1, hc1⟩ := g1
  have HC1 := Lib.hid hc1
  have Q1 := Lib.hid q1
  clear hc1 q1
  have hmm := @run_makeMap Try.prog
  go_enter Try.func11, Try.ntmps11
  go_wp2_with fail
  refine (New_sep 0 1000 10 (Sep.nil w)).mono ?_
  rintro e w1 ⟨b, rfl, h1⟩
  rw [show clampN 0 = 0 from by decide, show clampN 1000 = 1000 from by decide, show clamp1 10 = 10 from by decide, show (Cd.num 1000 10).toNat = 100 from by decide] at h1
  have h2 := h1.new_map ik
  simp only [List.cons_append, List.nil_append] at h2
  obtain ⟨G, hG⟩ : ∃ G, w1.heap.size = G := ⟨_, rfl⟩
  rw [hG] at h2
  have HG := Lib.hid hG
  clear hG
  go_wp2_with fail
  rw [HG.out]
  clear HG hmm
  go_loopg [5] 100 (fun gk i wr => ∃ (k : Nat) (m : List Bool) (al : List (Int × Value)), k + gk = 100 ∧ i = .int .i64 k ∧ WR m al ∧ Sep w wr [Crd b ⟨0, 1000, 10, m⟩, mapP ik G al])
  case atStart => exact ⟨0, _, _, rfl, rfl, WR.new, h2⟩
  case round =>
    clear h1 h2
    obtain ⟨k, m, al, hk, rfl, hwr, h⟩ := hrel
    have HWR := Lib.hid hwr
    clear hwr
    by_cases hc : k < l1.length ∧ k < 100
    · obtain ⟨hl1, hl2⟩ := hc
      obtain ⟨b1, o1, rfl, hb1, hlt1, hcell1⟩ := HC1.out (by omega)
      have d0 : wr.cell? ⟨b1, o1 + k, none⟩ = some (.int .u16 (l1[k]?.getD 0)) := (World.cell?_of_block (h.block b1 hlt1)).trans (hcell1 k hl1)
      have hx := Q1.out (l1[k]?.getD 0) (by rw [List.getElem?_eq_getElem hl1]; exact List.getElem_mem _)
      generalize l1[k]?.getD 0 = x at d0 hx
      obtain ⟨hx0, hx1⟩ := hx
      clear hcell1
      have y0 : 0 ≤ x % 1000 := by omega
      have y1 : x % 1000 < 1000 := by omega
      go_wp2_with fail
      generalize x % 1000 = a at y0 y1 ⊢
      obtain ⟨j, hj⟩ : ∃ j : Nat, a / 10 = (j : Int) := ⟨(a / 10).toNat, by omega⟩
      have hj100 : j < 100 := by omega
      have hof : ∀ m, Cd.of_ ⟨0, 1000, 10, m⟩ a = (j : Int) := fun m => by rw [of_in (by omega) (by omega), show a - 0 = a by omega, hj]
      have HO := Lib.hid hof
      have HJ := Lib.hid hj
      clear hof hj
      refine (Mark_sep a h 0 rfl (by omega)).mono ?_
      rintro e w3 ⟨rfl, h3⟩
      rw [HO.out, if_pos (by omega), Int.toNat_natCast] at h3
      rw [HO.out, show decide ((0 : Int) ≤ (j : Int)) = true from by simp]
      replace h3 : Sep w w3 [Crd b ⟨0, 1000, 10, m.set j true⟩, mapP ik G al] := h3
      go_wp2_with fail
      refine (Mark_sep a h3 0 rfl (by omega)).mono ?_
      rintro e w4 ⟨rfl, h4⟩
      rw [HO.out, if_pos (by omega), Int.toNat_natCast] at h4
      rw [HO.out, show decide ((0 : Int) ≤ (j : Int)) = true from by simp]
      replace h4 : Sep w w4 [Crd b ⟨0, 1000, 10, (m.set j true).set j true⟩, mapP ik G al] := h4
      rw [List.set_set] at h4
      go_wp2_with (at_mapUpdate; refine wpList_update_sep rfl _ _ _ 52 rfl Try.underlying52 h4 1 rfl (a / 10) (.bool true) rfl rfl rfl ?_)
      intro w5 h5
      rw [HJ.out] at h5
      go_wp2_with fail
      go_roundg (gk - 1)
      case measure => omega
      case rel => exact ⟨k + 1, m.set j true, _, by omega, by go_num, HWR.out.step hj100, h5⟩
    · have hw1 := HWR.out.1
      have hw2 := HWR.out.2.1
      rcases (by omega : ¬ k < l1.length ∨ (k < l1.length ∧ ¬ k < 100)) with hx | ⟨hx, hx'⟩
      all_goals
        clear hc hw1 hw2
        have hlen := fun ty => Mp.run_len (h.mp 1 rfl) Try.underlying52 ty
        have hw1 := HWR.out.1
        have hw2 := HWR.out.2.1
        have hcle : m.count true ≤ 100 := by have := List.count_le_length (a := true) (l := m); omega
        rw [hw2] at hlen
        have hct := Count_sep h 0 rfl
        simp only [] at hct
        have hne : (((m.count true : Nat) : Int) != ((m.count true : Nat) : Int)) = false := by simp
        have HCT := Lib.hid hct
        clear hw1 hw2 hct
        go_wp2_with fail
        refine HCT.out.mono ?_
        rintro e w6 ⟨rfl, rfl⟩
        go_wp2_with fail
        clear hlen hne HCT
        have HCL := Lib.hid hcle
        clear hcle
        go_loopg [7, 8] 101 (fun gj la q wx => ∃ (i : Nat) (last : Int) (m2 : List Bool), i + gj = 101 ∧ m2.length = 100 ∧ m2.count true + i ≤ 100 ∧ q = .int .i64 i ∧ la = .int .i64 last ∧ -1 ≤ last ∧ last < 100 ∧ (∀ j : Nat, m2[j]?.getD false = true → last < j ∧ m[j]?.getD false = true) ∧ Sep w wx [Crd b ⟨0, 1000, 10, m2⟩, mapP ik G al])
        case atStart => exact ⟨0, -1, m, rfl, HWR.out.1, by have := HCL.out; omega, rfl, rfl, by omega, by omega, fun j hj => ⟨by omega, hj⟩, h⟩
        case round =>
          clear h
          obtain ⟨i, last, m2, hi, hm2, hcnt, rfl, rfl, la0, la1, hrest, h⟩ := hrel
          have HR := Lib.hid hrest
          have HM2 := Lib.hid hm2
          have HCN := Lib.hid hcnt
          have HI := Lib.hid hi
          have hi9 : i ≤ 100 := by omega
          clear hrest hm2 hcnt hi9
          have hi9 : i < 200 := by omega
          go_wp2_with fail
          refine (First_sep 0 h 0 rfl).mono ?_
          rintro e w7 ⟨r, hf, rfl, rfl⟩
          cases r with
          | none =>
            have hz := all_false hf
            rw [show fstO none = 0 from rfl, show (none : Option Nat).isSome = false from rfl]
            have HZ := Lib.hid hz
            clear hf hz
            go_wp2_with fail
            refine (awake_sep h).mono ?_
            rintro e w8 ⟨rfl, h8⟩
            go_wp2_with fail
            refine (Count_sep h8 0 rfl).mono ?_
            rintro e w9 ⟨rfl, rfl⟩
            rw [show (((m2.count true : Nat) : Int)) = 0 from by rw [HZ.out]; rfl]
            go_wp2_with fail
            go_ret
            exact ⟨by simp, h8.below⟩
          | some n =>
            obtain ⟨f1, f2, f3, f4⟩ := hf
            have f5 := HR.out n f3
            obtain ⟨f6, f7⟩ := f5
            rw [HM2.out] at f2
            rw [show fstO (some n) = (n : Int) from rfl, show (some n).isSome = true from rfl]
            have hlk : (mget al (n : Int)).getD (.bool false) = .bool true := by
              rw [HWR.out.2.2]
              have : Cd.isMark ⟨0, 1000, 10, m⟩ (n : Int) = true := by unfold Cd.isMark; rw [if_pos (by omega)]; exact f7
              rw [this]; rfl
            have hlook := Mp.run_lookup (h.mp 1 rfl) Try.underlying52 zero_bool (n : Int)
            rw [hlk] at hlook
            replace hlook : (Instr.lookup 52 (.map (some G)) (.int .i64 (n : Int)) false).run Try.prog wr = .ok (.bool true) wr := hlook
            have hmk : Cd.isMark ⟨0, 1000, 10, m2⟩ (n : Int) = true := by unfold Cd.isMark; rw [if_pos (by omega)]; exact f3
            have hcu := count_unset m2 n f3
            have hle : decide ((n : Int) ≤ last) = false := by simp; omega
            have HMK := Lib.hid hmk
            have HCU := Lib.hid hcu
            have HF4 := Lib.hid f4
            clear hmk hcu f1 f3 f4 f7 hlk
            go_wp2_with fail
            refine (Clear_sep (n : Int) h 0 rfl).mono ?_
            rintro e w8 ⟨rfl, h8⟩
            rw [HMK.out, if_pos rfl, Int.toNat_natCast] at h8
            rw [HMK.out]
            replace h8 : Sep w w8 [Crd b ⟨0, 1000, 10, m2.set n false⟩, mapP ik G al] := h8
            clear hlook
            go_wp2_with fail
            go_roundg (gk - 1)
            case measure => have := HI.out; have := HCN.out; omega
            case rel =>
              refine ⟨i + 1, n, m2.set n false, by have := HI.out; have := HCN.out; omega, by rw [List.length_set]; exact HM2.out, by have := HCU.out; have := HCN.out; omega, by go_num, rfl, by omega, by omega, fun j hj => ?_, h8⟩
              by_cases hjn : j = n
              · subst hjn
                rw [List.getElem?_set_self (by rw [HM2.out]; exact f2)] at hj
                cases hj
              · rw [List.getElem?_set_ne (Ne.symm hjn)] at hj
                refine ⟨?_, (HR.out j hj).2⟩
                rcases Nat.lt_or_ge j n with hl | hl
                · have := HF4.out j (by simp) hl
                  rw [this] at hj
                  cases hj
                · omega
end Go.Proofs.Ytoalianiedjoaaa.Cd
