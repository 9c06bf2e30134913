/- Contracts of package mature: how large something is. No condition. -/
import Derived.Test.YtjgjablmkljfoaaMatC
set_option linter.unusedVariables false
set_option linter.unusedSimpArgs false
namespace Go.Proofs.Ytjgjablmkljfoaa.Ma
open Go.RowKit Go.Proofs.Ytjgjablmkljfoaa.W Go.Proofs.Ytjgjablmkljfoaa.Cl

/-- How large what begins somewhere is. -/
def szP (n : Int) (p : Pg) : Int := if p.kind = 2 then pgs n p.size * n else p.size
def szO (n : Int) (l : List Pg) (o : Option (Nat × Nat)) : Int := match o with | none => 0 | some y => match l[y.1]? with | none => 0 | some p => szP n p
theorem atP_some {i j k : Nat} {p : Pg} {r : Int} (h : atP i p r = some (j, k)) : j = i ∧ (p.kind = 2 ∧ k = 0 ∧ r = 0 ∨ p.kind = 1 ∧ r % p.size = 0 ∧ k = (r / p.size).toNat ∧ p.used[k]? = some true) := by
  unfold atP at h
  split at h
  · rename_i h1; cases h; exact ⟨rfl, .inl ⟨h1.1, rfl, h1.2⟩⟩
  · split at h
    · rename_i h1; cases h; exact ⟨rfl, .inr ⟨h1.1, h1.2.1, rfl, h1.2.2⟩⟩
    · cases h
theorem atO_some {f n x : Int} {l : List Pg} {j k : Nat} (h : atO f n l x = some (j, k)) : f ≤ x ∧ j = ((x - f) / n).toNat ∧ ∃ p, l[j]? = some p ∧ (p.kind = 2 ∧ k = 0 ∧ (x - f) % n = 0 ∨ p.kind = 1 ∧ ((x - f) % n) % p.size = 0 ∧ k = (((x - f) % n) / p.size).toNat ∧ p.used[k]? = some true) := by
  unfold atO at h
  split at h
  · cases h
  · rename_i hx
    cases hp : l[((x - f) / n).toNat]? with
    | none => rw [hp] at h; cases h
    | some p =>
      rw [hp] at h
      obtain ⟨rfl, h2⟩ := atP_some h
      exact ⟨by omega, rfl, p, hp, h2⟩
section
variable {W w : World} {oo : Nat → Prop} {b L : Nat} {f n : Int} {lg : List (Pg × Nat)}
theorem MW.big_b (m : MW f n lg) {i : Nat} {p : Pg × Nat} (hp : lg[i]? = some p) (hk : p.1.kind = 2) : 1 ≤ p.1.size ∧ p.1.size ≤ 9223372036854775807 ∧ 1 ≤ pgs n p.1.size ∧ (i : Int) + pgs n p.1.size ≤ lg.length ∧ 0 ≤ pgs n p.1.size * n ∧ pgs n p.1.size * n ≤ 64 * 256 := by
  have hb := m.big i p hp hk
  have hl := m.len
  have n0 := m.n0
  have n1 := m.n1
  obtain ⟨s1, s2⟩ : 1 ≤ p.1.size ∧ p.1.size ≤ 9223372036854775807 := by
    rcases m.page p (List.mem_of_getElem? hp) with ⟨h, _⟩ | ⟨_, _, _, _, h⟩
    · omega
    · exact h hk
  have hg := pgs_b n0 s1
  refine ⟨s1, s2, hg.1, hb, Int.mul_nonneg (by omega) (by omega), ?_⟩
  have h1 := Int.mul_le_mul_of_nonneg_right (by omega : pgs n p.1.size ≤ 64) (by omega : 0 ≤ n)
  omega
set_option maxRecDepth 20000 in
set_option maxHeartbeats 1000000 in
theorem Size_in (x : Int) (h : SepO W oo w (mparts b L f n lg)) (m : MW f n lg) (hx : -9223372036854775808 ≤ x ∧ x ≤ 9223372036854775807) :
    Calls Try.prog 10 #[pt b, .int .i64 x] w fun e w' => e = .returned (.tuple #[.int .i64 (szO n (lg.map (·.1)) (atO f n (lg.map (·.1)) x)), .bool (atO f n (lg.map (·.1)) x).isSome]) ∧ SepO W oo w' (mparts b L f n lg) := by
  have hc := at_in x h m hx
  cases ho : atO f n (lg.map (·.1)) x with
  | none =>
    rw [ho] at hc
    have HC := Lib.hid hc
    clear hc ho m h
    go_enter Try.func10, Try.ntmps10
    go_wp2_with fail
    refine HC.out.mono ?_
    rintro e w1 ⟨rfl, h1⟩
    go_wp2_with fail
    go_ret2
    exact ⟨rfl, h1⟩
  | some y =>
    obtain ⟨i, k⟩ := y
    rw [ho] at hc
    obtain ⟨-, -, q, hq, hk⟩ := atO_some ho
    replace hc : Calls Try.prog 32 #[pt b, .int .i64 x] w fun e w' => e = .returned (.tuple #[.int .i64 i, .int .i64 k, .bool true]) ∧ SepO W oo w' (mparts b L f n lg) := hc
    rw [List.getElem?_map] at hq
    obtain ⟨p, hp, rfl⟩ := Option.map_eq_some_iff.1 hq
    have hil : i < lg.length := (List.getElem?_eq_some_iff.1 hp).1
    have hl := m.len
    have n1 := m.n1
    have n0 := m.n0
    have hsz : szO n (lg.map (·.1)) (some (i, k)) = szP n p.1 := by unfold szO; simp only [List.getElem?_map, hp, Option.map_some]
    rw [hsz]
    have HC := Lib.hid hc
    have HP := Lib.hid hp
    by_cases hk2 : p.1.kind = 2
    · obtain ⟨b1, b2, b3, b4, b5, b6⟩ := m.big_b hp hk2
      rw [show szP n p.1 = pgs n p.1.size * n from if_pos hk2]
      obtain ⟨g, hg⟩ : ∃ g, pgs n p.1.size = g := ⟨_, rfl⟩
      rw [hg] at b3 b4 b5 b6 ⊢
      obtain ⟨v, hv⟩ : ∃ v, g * n = v := ⟨_, rfl⟩
      rw [hv] at b5 b6 ⊢
      have e1 := IntWalk.i64_in v (by omega)
      have HG := Lib.hid hg
      have HV := Lib.hid hv
      clear hc ho m h hk hq hp hsz hg hv
      rw [← HV.out] at e1
      go_enter Try.func10, Try.ntmps10
      go_wp2_with fail
      refine HC.out.mono ?_
      rintro e w1 ⟨rfl, h1⟩
      have c1 : w1.cell? ⟨b, 1, none⟩ = some (.int .i64 n) := (m_blk h1).cell 1
      have c2 : w1.cell? ⟨b, 2, none⟩ = some (.slice (some ⟨L, 0, none⟩) lg.length lg.length) := (m_blk h1).cell 2
      obtain ⟨p0, p1, _, _⟩ := m_page h1 HP.out
      rw [hk2] at p0
      have HB : ∀ q, Calls Try.prog 29 #[.int .i64 n, .int .i64 p.1.size] (w1.drewN q) fun e w' => e = .returned (.int .i64 g) ∧ ∃ r, w' = (w1.drewN q).drewN r := fun q => by
        rw [← HG.out]; exact Pages_calls n p.1.size _ (by omega) (by omega)
      have HB' := Lib.hid HB
      have H1 := Lib.hid h1
      clear HB h1
      go_wp2_with fail
      go_quiet ((go_at_call 29; exact Calls.quiet_of (HB'.out _)))
      go_wp2_with fail
      go_ret2
      exact ⟨by rw [HV.out]; rfl, H1.out.drewN _⟩
    · rw [show szP n p.1 = p.1.size from if_neg hk2]
      have e1 : (p.1.kind == 2) = false := by simpa using hk2
      clear hc ho m h hk hq hp hsz
      go_enter Try.func10, Try.ntmps10
      go_wp2_with fail
      refine HC.out.mono ?_
      rintro e w1 ⟨rfl, h1⟩
      have c2 : w1.cell? ⟨b, 2, none⟩ = some (.slice (some ⟨L, 0, none⟩) lg.length lg.length) := (m_blk h1).cell 2
      obtain ⟨p0, p1, _, _⟩ := m_page h1 HP.out
      have H1 := Lib.hid h1
      clear h1
      go_wp2_with fail
      go_ret2
      exact ⟨rfl, H1.out⟩
end
end Go.Proofs.Ytjgjablmkljfoaa.Ma
