/- Contracts of package mature: how much is used. No condition. -/
import Derived.Test.YtjgjablmkljfoaaMatE
import Derived.Test.YtjgjablmkljfoaaSepMore
set_option linter.unusedVariables false
set_option linter.unusedSimpArgs false
namespace Go.Proofs.Ytjgjablmkljfoaa.Ma
open Go.RowKit Go.Proofs.Ytjgjablmkljfoaa.W Go.Proofs.Ytjgjablmkljfoaa.Cl

def usP (f n : Int) (l : List Pg) : List Int → Int
  | [] => 0
  | x :: r => szO n l (atO f n l x) + usP f n l r
def usL (f n : Int) (l : List Pg) : List Pg → Nat → Int
  | [], _ => 0
  | p :: r, i => usP f n l (stP f n i p) + usL f n l r (i + 1)
theorem sv_mem {B sz : Int} {u : List Bool} {k : Nat} {x : Int} (h : x ∈ sv B sz u k) : ∃ j : Nat, k ≤ j ∧ j < k + u.length ∧ x = B + j * sz := by
  induction u generalizing k with
  | nil => cases h
  | cons y r ih =>
    unfold sv at h
    rcases List.mem_append.1 h with h | h
    · split at h
      · exact ⟨k, by omega, by simp, by simpa using h⟩
      · cases h
    · obtain ⟨j, h1, h2, h3⟩ := ih h
      exact ⟨j, by omega, by simp; omega, h3⟩
section
variable {W w : World} {oo : Nat → Prop} {b L : Nat} {f n : Int} {lg : List (Pg × Nat)} {l : List Pr}
theorem stP_b (m : MW f n lg) {i : Nat} {p : Pg × Nat} (hp : lg[i]? = some p) : (stP f n i p.1).length ≤ 256 ∧ ∀ x ∈ stP f n i p.1, 0 ≤ x ∧ x ≤ 2000000 := by
  have hil : i < lg.length := (List.getElem?_eq_some_iff.1 hp).1
  have hl := m.len
  have hok := m.page p (List.mem_of_getElem? hp)
  have hul := used_le hok m.n1 m.n0
  obtain ⟨hB0, hB1⟩ := begin_b m (i := i) (by omega)
  unfold stP
  split
  · simp; omega
  · refine ⟨Nat.le_trans (sv_len _ _ _ _) hul, fun x hx => ?_⟩
    obtain ⟨j, _, h1, rfl⟩ := sv_mem hx
    have hn1 := m.n1
    rcases hok with ⟨_, s0, s1, _⟩ | ⟨_, hu, _⟩
    · have a0 : 0 ≤ (j : Int) * p.1.size := Int.mul_nonneg (by omega) (by omega)
      have a1 := Int.mul_le_mul_of_nonneg_right (by omega : (j : Int) ≤ 256) (by omega : 0 ≤ p.1.size)
      omega
    · rw [hu] at h1; simp at h1
theorem szO_b (m : MW f n lg) (x : Int) : 0 ≤ szO n (lg.map (·.1)) (atO f n (lg.map (·.1)) x) ∧ szO n (lg.map (·.1)) (atO f n (lg.map (·.1)) x) ≤ 16384 := by
  have hn1 := m.n1
  cases ho : atO f n (lg.map (·.1)) x with
  | none => exact ⟨Int.le_refl _, (by omega : (0 : Int) ≤ 16384)⟩
  | some y =>
    obtain ⟨i, k⟩ := y
    obtain ⟨-, -, q, hq, hk⟩ := atO_some ho
    rw [List.getElem?_map] at hq
    obtain ⟨p, hp, rfl⟩ := Option.map_eq_some_iff.1 hq
    have hsz : szO n (lg.map (·.1)) (some (i, k)) = szP n p.1 := by unfold szO; simp only [List.getElem?_map, hp, Option.map_some]
    rw [hsz]
    unfold szP
    split
    · rename_i h2
      obtain ⟨_, _, _, _, h5, h6⟩ := m.big_b hp h2
      omega
    · rcases m.page p (List.mem_of_getElem? hp) with ⟨_, s0, s1, _⟩ | ⟨h1, _⟩
      · omega
      · rcases hk with ⟨h, _⟩ | ⟨h, _⟩
        · exact absurd h (by assumption)
        · exact absurd h h1
theorem usP_drop {l : List Pg} {V : List Int} {t : Nat} {x : Int} (h : V[t]? = some x) : usP f n l (V.drop t) = szO n l (atO f n l x) + usP f n l (V.drop (t + 1)) := by
  have ht := (List.getElem?_eq_some_iff.1 h).1
  rw [List.drop_eq_getElem_cons ht]
  have : V[t] = x := by rw [List.getElem?_eq_getElem ht] at h; simpa using h
  rw [this]
  rfl
theorem usL_drop {l V : List Pg} {j : Nat} {p : Pg} (h : V[j]? = some p) : usL f n l (V.drop j) j = usP f n l (stP f n j p) + usL f n l (V.drop (j + 1)) (j + 1) := by
  have ht := (List.getElem?_eq_some_iff.1 h).1
  rw [List.drop_eq_getElem_cons ht]
  have : V[j] = p := by rw [List.getElem?_eq_getElem ht] at h; simpa using h
  rw [this]
  rfl
theorem Size_at (x : Int) (h : SepO W oo w (sepP (mparts b L f n lg) :: l)) (m : MW f n lg) (hx : -9223372036854775808 ≤ x ∧ x ≤ 9223372036854775807) :
    Calls Try.prog 10 #[pt b, .int .i64 x] w fun e w' => e = .returned (.tuple #[.int .i64 (szO n (lg.map (·.1)) (atO f n (lg.map (·.1)) x)), .bool (atO f n (lg.map (·.1)) x).isSome]) ∧ SepO W oo w' (sepP (mparts b L f n lg) :: l) := by
  obtain ⟨o, h1, hup⟩ := h.lift
  exact (Size_in x h1 m hx).mono (fun e w' he => ⟨he.1, hup _ _ he.2⟩)
theorem starts_at (i : Nat) {p : Pg × Nat} (hp : lg[i]? = some p) (h : SepO W oo w (sepP (mparts b L f n lg) :: l)) (m : MW f n lg) :
    Calls Try.prog 34 #[pt b, .int .i64 i] w fun e w' => ∃ A c, e = .returned (.slice A (stP f n i p.1).length c) ∧ SepO W oo w' (sepP (mparts b L f n lg) :: l ++ [rowP 3 A (stP f n i p.1).length c ((stP f n i p.1).map (Value.int .i64))]) := by
  obtain ⟨o, h1, hup⟩ := h.lift
  refine (starts_in i hp h1 m).mono ?_
  rintro e w' ⟨A, c, he, h2⟩
  exact ⟨A, c, he, (hup _ _ h2).split_last⟩
set_option maxRecDepth 20000 in
set_option maxHeartbeats 2000000 in
theorem Used_in (h0 : SepO W oo w (mparts b L f n lg)) (m : MW f n lg) :
    Calls Try.prog 13 #[pt b] w fun e w' => e = .returned (.int .i64 (usL f n (lg.map (·.1)) (lg.map (·.1)) 0)) ∧ SepO W oo w' (mparts b L f n lg) := by
  have c2 := (m_blk h0).cell 2
  simp at c2
  have hl := m.len
  obtain ⟨T, hT⟩ : ∃ T, usL f n (lg.map (·.1)) (lg.map (·.1)) 0 = T := ⟨_, rfl⟩
  rw [hT]
  have HT := Lib.hid hT
  have M := Lib.hid m
  have h := h0.pack
  clear h0 hT m
  go_enter Try.func13, Try.ntmps13
  go_wp2_with fail
  go_loopg [3, 16] lg.length (fun gk o z wr => ∃ (j : Nat) (O : Int), j + gk = lg.length ∧ z = .int .i64 j ∧ o = .int .i64 O ∧ 0 ≤ O ∧ O ≤ j * 4194304 ∧ O + usL f n (lg.map (·.1)) ((lg.map (·.1)).drop j) j = T ∧ SepO W oo wr [sepP (mparts b L f n lg)])
  case atStart => exact ⟨0, 0, by omega, rfl, rfl, by omega, by omega, by simpa using HT.out, h⟩
  case round =>
    clear h c2
    obtain ⟨j, O, hj, rfl, rfl, O0, O1, hv, h⟩ := hrel
    have HJ := Lib.hid hj
    have HV := Lib.hid hv
    have hjl : j ≤ lg.length := by omega
    clear hj hv
    by_cases hlt : j < lg.length
    · obtain ⟨p, hp⟩ : ∃ p, lg[j]? = some p := ⟨lg[j], List.getElem?_eq_getElem hlt⟩
      have hpp : (lg.map (·.1))[j]? = some p.1 := by rw [List.getElem?_map, hp]; rfl
      have hv := HV.out
      rw [usL_drop hpp] at hv
      obtain ⟨hV0, hVb⟩ := stP_b M.out hp
      have HVB := Lib.hid hVb
      have HP := Lib.hid hp
      have hst := starts_at j hp h M.out
      generalize stP f n j p.1 = V at hv hV0 HVB hst hVb
      have HD := Lib.hid hv
      have HST := Lib.hid hst
      clear hv hpp hp hst hVb HV
      go_wp2_with fail
      refine HST.out.mono ?_
      rintro e w1 ⟨A, c, rfl, h1⟩
      clear h HST
      simp only [List.cons_append, List.nil_append] at h1
      go_wp2_with fail
      obtain ⟨gz, rfl⟩ : ∃ x, x = gk := ⟨_, rfl⟩
      go_loopg [3, 23] V.length (fun gt o z wx => ∃ (t : Nat) (S : Int), t + gt = V.length ∧ z = .int .i64 t ∧ o = .int .i64 S ∧ 0 ≤ S ∧ S ≤ j * 4194304 + t * 16384 ∧ S + (usP f n (lg.map (·.1)) (V.drop t) + usL f n (lg.map (·.1)) ((lg.map (·.1)).drop (j + 1)) (j + 1)) = T ∧ SepO W oo wx [sepP (mparts b L f n lg), rowP 3 A V.length c (V.map (Value.int .i64))])
      case atStart => exact ⟨0, O, by omega, rfl, rfl, O0, by omega, by simpa using HD.out, h1⟩
      case round =>
        clear h1
        obtain ⟨t, S, ht, rfl, rfl, S0, S1, hv, h⟩ := hrel
        have HI := Lib.hid ht
        have HV := Lib.hid hv
        have htl : t ≤ V.length := by omega
        clear ht hv
        by_cases hlt' : t < V.length
        · obtain ⟨x, hx⟩ : ∃ x, V[t]? = some x := ⟨V[t], List.getElem?_eq_getElem hlt'⟩
          obtain ⟨hx0, hx1⟩ := HVB.out x (List.mem_of_getElem? hx)
          have hv := HV.out
          rw [usP_drop hx] at hv
          obtain ⟨z0, z1⟩ := szO_b M.out x
          obtain ⟨oq, hq, _⟩ := h.row 1 rfl
          obtain ⟨g, off, rfl, _, _, hcell, _⟩ := hq.at_ (i := t) (by omega)
          have y0 := hcell t hlt'
          simp [hx] at y0
          have hsz := Size_at x h M.out (by omega)
          generalize szO n (lg.map (·.1)) (atO f n (lg.map (·.1)) x) = s at hv z0 z1 hsz
          have HD' := Lib.hid hv
          have HS := Lib.hid hsz
          clear hv hsz hq hcell hx h HV
          go_wp2_with fail
          refine HS.out.mono ?_
          rintro e w2 ⟨rfl, h2⟩
          go_wp2_with fail
          go_roundg (gk - 1)
          case measure => have := HI.out; omega
          case rel => exact ⟨t + 1, S + s, by have := HI.out; omega, by go_num, rfl, by omega, by omega, by have := HD'.out; omega, h2⟩
        · have hv := HV.out
          rw [List.drop_of_length_le (by omega)] at hv
          have hte : t = V.length := by omega
          have HD' := Lib.hid hv
          have h2 := h.first (l := [_])
          clear hv HV h
          go_wp2_with fail
          go_roundg (gz - 1)
          case measure => have := HJ.out; omega
          case rel => exact ⟨j + 1, S, by have := HJ.out; omega, by go_num, rfl, S0, by omega, by have := HD'.out; simp only [usP] at this; omega, h2⟩
    · have hv := HV.out
      rw [List.drop_of_length_le (by simpa using Nat.le_of_not_lt hlt)] at hv
      have HD := Lib.hid hv
      clear hv HV
      have h2 := h.unpack
      rw [List.append_nil] at h2
      have H2 := Lib.hid h2
      go_wp2_with fail
      go_ret
      exact ⟨by rw [← HD.out]; simp [usL], H2.out⟩
end
end Go.Proofs.Ytjgjablmkljfoaa.Ma
