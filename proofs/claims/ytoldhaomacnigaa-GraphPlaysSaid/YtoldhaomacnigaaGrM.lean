/- GraphClear as a contract. Condition: the list reads as a list. -/
import Derived.Test.YtoldhaomacnigaaGrL
set_option linter.unusedVariables false
set_option linter.unusedSimpArgs false
namespace Go.Proofs.Ytoldhaomacnigaa.Gr
open Go.RowKit Go.Proofs.Ytoldhaomacnigaa.W Go.Proofs.Ytoldhaomacnigaa Go.Proofs.Ytoldhaomacnigaa.Sm
/-- A step of a list, where the list lies in old memory. -/
theorem step_at {w wr : World} {A : Option Addr} {l1 : List A5} (hc : 0 < l1.length → ∃ b o, A = some ⟨b, o, none⟩ ∧ (fun i => i < w.heap.size) b ∧ b < w.heap.size ∧ ∀ j x, l1[j]? = some x → ∀ i u, (A5.cells x)[i]? = some u → w.cell? ⟨b, o + (j * 5 + i), none⟩ = some u)
    (hk : Keep (fun _ => False) w wr) {k : Nat} (hlt : k < l1.length) : ∃ b o x, l1[k]? = some x ∧ A = some ⟨b, o, none⟩ ∧ wr.cell? ⟨b, o + k * 5, none⟩ = some (.int .i64 x.kind) ∧ wr.cell? ⟨b, o + k * 5 + 1, none⟩ = some (.int .i64 x.a) ∧ wr.cell? ⟨b, o + k * 5 + 2, none⟩ = some (.int .i64 x.b) ∧ wr.cell? ⟨b, o + k * 5 + 3, none⟩ = some (.int .i64 x.c) ∧ wr.cell? ⟨b, o + k * 5 + 4, none⟩ = some (.int .u64 x.v) := by
  obtain ⟨b, o, hA, _, hlt2, hcell⟩ := hc (by omega)
  have hx : l1[k]? = some (l1[k]'hlt) := List.getElem?_eq_getElem hlt
  have e : ∀ i u, (A5.cells l1[k])[i]? = some u → wr.cell? ⟨b, o + k * 5 + i, none⟩ = some u := fun i u hu => by
    rw [Nat.add_assoc]
    exact (World.cell?_of_block (hk.block b hlt2 (fun h => h))).trans (hcell k _ hx i u hu)
  exact ⟨b, o, _, hx, hA, e 0 _ rfl, e 1 _ rfl, e 2 _ rfl, e 3 _ rfl, e 4 _ rfl⟩
theorem meet_zero {l : List Nat} (h : ∀ x ∈ l, x = 0) : meetL [] l = [] := by
  induction l with
  | nil => rfl
  | cons x r ih =>
    unfold meetL
    rw [if_pos (.inl (h x List.mem_cons_self))]
    exact ih (fun y hy => h y (List.mem_cons_of_mem _ hy))
theorem live_none {t : GS} (h : ∀ x ∈ t.hs, x = 0) : live t = [] := by
  unfold live
  rw [meet_zero h]
  cases t.nodes.length with
  | zero => rfl
  | succ n => unfold bfs; rfl
theorem clear_step {t : GS} {j : Nat} (h : j < t.hs.length) : gdo t ⟨6, j, 0, 0, 0⟩ = (err 0, { t with hs := t.hs.set j 0 }) := by
  have : has t (j : Int) = true := (has_iff _ _).2 ⟨by omega, by omega⟩
  unfold gdo
  simp [gclear, this, ans]
set_option maxRecDepth 20000 in
set_option maxHeartbeats 4000000 in
theorem Clear_calls {v1 : Value} {l1 : List A5} (a0 : Int) (w : World) (p0 : 0 ≤ a0 ∧ a0 ≤ 255) (g1 : SS w (fun i => i < w.heap.size) A5.cells 5 v1 l1) (q1 : ∀ x ∈ l1, A5.wf x) :
    Calls Try.prog 4 #[.int .u8 a0, v1] w fun e w' => e = .returned (.bool true) ∧ Below w.heap.size w w' := by
  obtain ⟨A1, c1, rfl, hm1, hc1⟩ := g1
  have HC1 := Lib.hid hc1
  have Q1 := Lib.hid q1
  clear hc1 q1
  obtain ⟨p00, p01⟩ := p0
  have r0 : 0 ≤ a0 % 10 := by omega
  have r1 : a0 % 10 < 10 := by omega
  go_enter Try.func4, Try.ntmps4
  go_wp2_with fail
  obtain ⟨n, hn⟩ : ∃ n : Nat, a0 % 10 + 1 = n := ⟨(a0 % 10 + 1).toNat, by omega⟩
  have n0 : 1 ≤ n := by omega
  have n1 : n ≤ 10 := by omega
  rw [hn]
  clear hn r0 r1 p00 p01
  refine (New_sep n 8 (Sep.nil w)).mono ?_
  rintro e w1 ⟨g, rfl, h1⟩
  have hgn : (gnew n 8).hs.length = n := by simp only [gnew, List.length_replicate]; unfold clamp64; rw [if_neg (by omega), if_neg (by omega)]; omega
  have HGN := Lib.hid hgn
  have H1 := Lib.hid h1
  clear h1 hgn
  go_wp2_with fail
  go_loopg [7] 80 (fun gk z wr => ∃ (j : Nat) (t : GS), j + gk = 80 ∧ z = .int .i64 j ∧ Sep w wr [Gph g t] ∧ t.hs.length = n ∧ t.nodes.length ≤ j)
  case atStart => exact ⟨0, gnew n 8, by omega, rfl, H1.out, HGN.out, by simp [gnew]⟩
  case round =>
    clear H1 HGN
    obtain ⟨j, t, hj, rfl, h, hl, hno⟩ := hrel
    have HJ := Lib.hid hj
    have HL := Lib.hid hl
    have hj80 : j ≤ 80 := by omega
    clear hj hl
    by_cases hc : j < l1.length ∧ j < 80
    · obtain ⟨hlt, hlt2⟩ := hc
      obtain ⟨b, o, x, hx, rfl, x0, x1, x2, x3, x4⟩ := step_at HC1.out h.keep0 hlt
      have hwf := Q1.out x (List.mem_of_getElem? hx)
      have hgl := gdo_len t x
      have hdo := Do_sep x hwf h 0 rfl
      have HD := Lib.hid hdo
      have HGL := Lib.hid hgl
      clear h hdo hx hgl hwf
      go_wp2_with fail
      refine HD.out.mono ?_
      rintro e w2 ⟨rfl, h2⟩
      have H2 := Lib.hid h2
      clear h2 HD
      go_wp2_with fail
      go_roundg (gk - 1)
      case measure => have := HJ.out; omega
      case rel => exact ⟨j + 1, _, by have := HJ.out; omega, by go_num, H2.out, by rw [HGL.out.1]; exact HL.out, by have := HGL.out.2.1; omega⟩
    · have H0 := Lib.hid h
      clear h
      rcases (by omega : ¬ j < l1.length ∨ (j < l1.length ∧ ¬ j < 80)) with hx | ⟨hx, hx'⟩
      all_goals
        clear hc
        go_wp2_with fail
        go_loopg [8] n (fun gk z wr => ∃ (i : Nat) (t : GS), i + gk = n ∧ z = .int .i64 i ∧ Sep w wr [Gph g t] ∧ t.hs.length = n ∧ t.nodes.length ≤ 80 ∧ ∀ m, m < i → t.hs[m]? = some 0)
        case atStart => exact ⟨0, t, by omega, rfl, H0.out, HL.out, by omega, fun m hm => by omega⟩
        case round =>
          clear H0 HJ HL hno hj80
          obtain ⟨i, t, hj, rfl, h, hl, hno, hz⟩ := hrel
          have HJ := Lib.hid hj
          have HL := Lib.hid hl
          have HZ := Lib.hid hz
          have hin : i ≤ n := by omega
          clear hj hl hz
          by_cases hlt : i < n
          · have hdo := Do_sep ⟨6, i, 0, 0, 0⟩ (by unfold A5.wf; simp only []; omega) h 0 rfl
            rw [clear_step (by rw [HL.out]; exact hlt)] at hdo
            have HD := Lib.hid hdo
            clear h hdo
            go_wp2_with fail
            refine HD.out.mono ?_
            rintro e w2 ⟨rfl, h2⟩
            have H2 := Lib.hid h2
            clear h2 HD
            go_wp2_with fail
            go_roundg (gk - 1)
            case measure => have := HJ.out; omega
            case rel =>
              refine ⟨i + 1, _, by have := HJ.out; omega, by go_num, H2.out, by simpa using HL.out, hno, fun m hm => ?_⟩
              show (t.hs.set i 0)[m]? = some 0
              rw [List.getElem?_set]
              by_cases hmi : i = m
              · rw [if_pos hmi, if_pos (by rw [HL.out]; exact hlt)]
              · rw [if_neg hmi]; exact HZ.out m (by omega)
          · have hie : i = n := by omega
            subst hie
            have hall : ∀ x ∈ t.hs, x = 0 := fun x hx => by
              obtain ⟨m, hm, rfl⟩ := List.getElem_of_mem hx
              have := HZ.out m (by rw [← HL.out]; exact hm)
              rw [List.getElem?_eq_getElem hm] at this
              exact Option.some.inj this
            have hlive := live_none hall
            have e1 : shown t = [] := by unfold shown; rw [hlive]; rfl
            have e2 : helds t = List.replicate i 0 := by
              unfold helds
              rw [hlive, List.eq_replicate_iff]
              exact ⟨by simp [HL.out], fun b hb => by simp at hb; obtain ⟨_, _, rfl⟩ := hb; simp [num]⟩
            have e3 : words t = 0 := by unfold words; rw [hlive]; rfl
            have hnd := Nodes_sep h 0 rfl (by omega)
            rw [e1, e2] at hnd
            have HND := Lib.hid hnd
            have E3 := Lib.hid e3
            clear h hnd e1 e2 e3 hlive hall
            go_wp2_with fail
            refine HND.out.mono ?_
            rintro e w3 ⟨v, hv, rfl, h3⟩
            obtain ⟨A2, c2, rfl, _⟩ := (nodes_of_part h3 1 rfl).len
            obtain ⟨A3, c3, rfl, _, d3⟩ := ints_of_part h3 2 rfl
            rw [List.length_replicate] at d3
            have D3 := Lib.hid d3
            have H3 := Lib.hid h3
            clear h3 d3 HND
            simp only [List.length_replicate, List.length_nil]
            go_wp2_with fail
            go_loopg [11] i (fun gk z wr => ∃ (m : Nat), m + gk = i ∧ z = .int .i64 m ∧ wr = w3)
            case atStart => exact ⟨0, by omega, rfl, rfl⟩
            case round =>
              obtain ⟨m, hj, rfl, rfl⟩ := hrel
              have HJ := Lib.hid hj
              have hmi : m ≤ i := by omega
              clear hj
              by_cases hlt : m < i
              · obtain ⟨b3, o3, rfl, _, _, d3⟩ := D3.out (by omega)
                have d4 := d3 m hlt
                have e : (List.replicate i (0 : Int))[m]?.getD 0 = 0 := by rw [List.getElem?_replicate]; split <;> rfl
                rw [e] at d4
                clear d3 e
                go_wp2_with fail
                go_roundg (gk - 1)
                case measure => have := HJ.out; omega
                case rel => exact ⟨m + 1, by have := HJ.out; omega, by go_num, rfl⟩
              · go_wp2_with fail
                refine (awake_calls _).mono ?_
                rintro e w4 ⟨rfl, k4⟩
                have H4 := Lib.hid (H3.out.stay k4)
                clear k4 H3 D3
                go_wp2_with fail
                refine (Words_sep H4.out 0 rfl (by omega)).mono ?_
                rintro e w5 ⟨rfl, h5⟩
                rw [E3.out]
                have H5 := Lib.hid h5
                clear h5 H4
                go_wp2_with fail
                go_ret
                exact ⟨rfl, H5.out.below⟩
end Go.Proofs.Ytoldhaomacnigaa.Gr
