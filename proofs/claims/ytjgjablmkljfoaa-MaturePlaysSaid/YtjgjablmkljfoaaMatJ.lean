/- Contracts of package mature: Take. No condition. -/
import Derived.Test.YtjgjablmkljfoaaMatI
set_option linter.unusedVariables false
set_option linter.unusedSimpArgs false
namespace Go.Proofs.Ytjgjablmkljfoaa.Ma
open Go.RowKit Go.Proofs.Ytjgjablmkljfoaa.W Go.Proofs.Ytjgjablmkljfoaa.Cl

def more : Pg := ⟨3, 0, [], false⟩
def fillM (q : Nat) : Nat → List Pg → List Pg
  | 0, l => l
  | k + 1, l => (fillM q k l).set (q + k) more
def fillG (q : Nat) : Nat → List (Pg × Nat) → List (Pg × Nat)
  | 0, l => l
  | k + 1, l => (fillG q k l).set (q + k) (more, 0)
theorem fillG_len (q k : Nat) (l : List (Pg × Nat)) : (fillG q k l).length = l.length := by
  induction k with
  | zero => rfl
  | succ k ih => unfold fillG; rw [List.length_set, ih]
theorem fillG_map (q k : Nat) (l : List (Pg × Nat)) : (fillG q k l).map (·.1) = fillM q k (l.map (·.1)) := by
  induction k with
  | zero => rfl
  | succ k ih => unfold fillG fillM; rw [List.map_set, ih]
theorem rowGo_b {c : Int} {l : List Pg} {i r s : Int} (h : rowGo c l i r = some s) (hr : 0 ≤ r) : i - r ≤ s ∧ s + c ≤ i + l.length := by
  induction l generalizing i r with
  | nil => cases h
  | cons p t ih =>
    simp only [rowGo] at h
    rw [List.length_cons]
    split at h
    · have := ih h (by omega); omega
    · split at h
      · cases h; omega
      · have := ih h (by omega); omega
/-- What Take answers, and the pages behind it. -/
def takeR (f n x : Int) (l : List Pg) : Option Int × List Pg :=
  if x < 1 then (none, l) else if big n x then (match rowGo (pgs n x) l 0 0 with | none => (none, l) | some q => (some (f + q * n), (fillM q.toNat (pgs n x).toNat l).set q.toNat ⟨2, x, [], false⟩)) else ibR f n (rnd x) l
section
variable {W w : World} {oo : Nat → Prop} {b L : Nat} {f n : Int} {lg : List (Pg × Nat)} {l : List Pr}
theorem MW.fill (m : MW f n lg) (q k : Nat) (hk : q + k ≤ lg.length) : MW f n (fillG q k lg) := by
  induction k with
  | zero => exact m
  | succ k ih =>
    have m1 := ih (by omega)
    have hlt : q + k < (fillG q k lg).length := by rw [fillG_len]; omega
    exact m1.set (List.getElem?_eq_getElem hlt) (more, 0) (.inr ⟨by decide, rfl, by decide, by decide, fun h => absurd h (by decide)⟩) (fun h => absurd h (by decide))
theorem m_plain (h : SepO W oo w (mparts b L f n lg)) {i : Nat} {p : Pg × Nat} (hp : lg[i]? = some p) (k s : Int) (pe : Bool) :
    SepO W oo ((((w.setCell ⟨L, i * 4, none⟩ (.int .i64 k)).setCell ⟨L, i * 4 + 1, none⟩ (.int .i64 s)).setCell ⟨L, i * 4 + 2, none⟩ (.slice none 0 0)).setCell ⟨L, i * 4 + 3, none⟩ (.bool pe)) (mparts b L f n (lg.set i (⟨k, s, [], pe⟩, 0))) := by
  have h1 := m_put0 (l := []) (by rw [List.append_nil]; exact h) hp (⟨k, s, [], pe⟩, 0) rfl
  rw [List.append_nil] at h1
  exact h1
set_option maxRecDepth 20000 in
set_option maxHeartbeats 4000000 in
theorem Take_in (x : Int) (hx : x ≤ 9223372036854775807) (h : SepO W oo w (mparts b L f n lg)) (m : MW f n lg) :
    Calls Try.prog 9 #[pt b, .int .i64 x] w fun e w' => e = .returned (.tuple #[.int .i64 (oI (takeR f n x (lg.map (·.1))).1), .bool (takeR f n x (lg.map (·.1))).1.isSome]) ∧ ∃ lg', SepO W oo w' (mparts b L f n lg') ∧ lg'.map (·.1) = (takeR f n x (lg.map (·.1))).2 := by
  have n0 := m.n0
  have n1 := m.n1
  have hl := m.len
  obtain ⟨⟨R1, R2⟩, hR⟩ : ∃ R, takeR f n x (lg.map (·.1)) = R := ⟨_, rfl⟩
  rw [hR]
  simp only []
  have c1 := (m_blk h).cell 1
  simp at c1
  have H := Lib.hid h
  have M := Lib.hid m
  by_cases hx1 : x < 1
  · have hE : R1 = none ∧ R2 = lg.map (·.1) := by
      unfold takeR at hR
      rw [if_pos hx1] at hR
      cases hR
      exact ⟨rfl, rfl⟩
    have HE := Lib.hid hE
    clear hE hR h m c1
    go_enter Try.func9, Try.ntmps9
    go_wp2_with fail
    go_ret2
    exact ⟨by rw [HE.out.1]; rfl, lg, H.out, HE.out.2.symm⟩
  · have g1 : decide (x < 1) = false := by simpa using hx1
    have hrb := rnd_b x
    have hlg := Large_calls n x w (by omega) (by omega)
    cases hbg : big n x
    · have hR' := hR
      unfold takeR at hR'
      rw [if_neg hx1, hbg, if_neg (by simp)] at hR'
      rw [hbg] at hlg
      have hle : rnd x ≤ n := by
        unfold big at hbg
        have h1 : ¬ n / 2 < rnd x := by simpa using hbg
        omega
      have hib := inBlock_in (rnd x) ⟨by omega, hle⟩ h m
      rw [hR'] at hib
      have hrd := Round_calls x w
      generalize rnd x = rx at hib hrd
      have HL := Lib.hid hlg
      have HI := Lib.hid hib
      have HR := Lib.hid hrd
      clear hlg hib hrd hR hR' hrb hle hbg h m
      go_enter Try.func9, Try.ntmps9
      go_wp2_with fail
      refine HL.out.mono ?_
      rintro e w2 ⟨rfl, rfl⟩
      go_wp2_with fail
      refine HR.out.mono ?_
      rintro e w2 ⟨rfl, rfl⟩
      go_wp2_with fail
      refine HI.out.mono ?_
      rintro e w2 ⟨rfl, h2⟩
      go_wp2_with fail
      go_ret2
      exact ⟨rfl, h2⟩
    · have hR' := hR
      unfold takeR at hR'
      rw [if_neg hx1, hbg, if_pos rfl] at hR'
      rw [hbg] at hlg
      obtain ⟨cb0, cb1⟩ := pgs_b n0 (by omega : 1 ≤ x)
      have hpc := Pages_calls n x w (by omega) hx
      have hmb : ∀ q : Nat, (q : Int) + pgs n x ≤ lg.length → (q : Int) + pgs n (2 : Int) ≤ q + pgs n 2 := fun _ _ => Int.le_refl _
      obtain ⟨C, hC⟩ : ∃ C, pgs n x = C := ⟨_, rfl⟩
      rw [hC] at hR' cb0 cb1 hpc
      have HCv := Lib.hid hC
      have HL := Lib.hid hlg
      have HP := Lib.hid hpc
      have hrow := fun k => row_in C (h.drewN k) m
      cases hrw : rowGo C (lg.map (·.1)) 0 0 with
      | none =>
        rw [hrw] at hrow hR'
        have hE : R1 = none ∧ R2 = lg.map (·.1) := by
          cases hR'
          exact ⟨rfl, rfl⟩
        have HE := Lib.hid hE
        have HW := Lib.hid hrow
        clear hE hR hR' h m hrow hpc hlg hmb hC hbg hrb
        go_enter Try.func9, Try.ntmps9
        go_wp2_with fail
        refine HL.out.mono ?_
        rintro e w2 ⟨rfl, rfl⟩
        go_wp2_with fail
        refine HP.out.mono ?_
        rintro e w2 ⟨rfl, k, rfl⟩
        go_wp2_with fail
        refine (HW.out k).mono ?_
        rintro e w2 ⟨rfl, rfl⟩
        have HH := Lib.hid (H.out.drewN k)
        go_wp2_with fail
        go_ret2
        exact ⟨by rw [HE.out.1]; rfl, lg, HH.out, HE.out.2.symm⟩
      | some qi =>
        rw [hrw] at hrow hR'
        obtain ⟨q0, q1⟩ := rowGo_b hrw (Int.le_refl 0)
        rw [List.length_map] at q1
        obtain ⟨q, rfl⟩ : ∃ q : Nat, qi = (q : Int) := ⟨qi.toNat, by omega⟩
        obtain ⟨D, rfl⟩ : ∃ D : Nat, C = (D : Int) := ⟨C.toNat, by omega⟩
        have hqD : q + D ≤ lg.length := by omega
        have hE : R1 = some (f + q * n) ∧ R2 = (fillM q D (lg.map (·.1))).set q ⟨2, x, [], false⟩ := by
          cases hR'
          exact ⟨rfl, rfl⟩
        have HE := Lib.hid hE
        have hrow' : ∀ k, Calls Try.prog 30 #[pt b, .int .i64 (D : Int)] (w.drewN k) fun e w' => e = .returned (.tuple #[.int .i64 q, .bool true]) ∧ w.drewN k = w' := hrow
        have HW := Lib.hid hrow'
        clear hE hR hR' h m hrow hrow' hpc hlg hmb hC hbg hrb hrw q0 q1
        go_enter Try.func9, Try.ntmps9
        go_wp2_with fail
        refine HL.out.mono ?_
        rintro e w2 ⟨rfl, rfl⟩
        go_wp2_with fail
        refine HP.out.mono ?_
        rintro e w2 ⟨rfl, k, rfl⟩
        go_wp2_with fail
        refine (HW.out k).mono ?_
        rintro e w2 ⟨rfl, rfl⟩
        have HH := Lib.hid (H.out.drewN k)
        clear HW HP HL H c1
        go_wp2_with fail
        go_loopg [44] D (fun gk z wr => ∃ j : Nat, j + gk = D ∧ z = .int .i64 j ∧ SepO W oo wr (mparts b L f n (fillG q j lg)))
        case atStart => exact ⟨0, by omega, rfl, HH.out⟩
        case round =>
          clear HH
          obtain ⟨j, hj, rfl, h⟩ := hrel
          have HJ := Lib.hid hj
          have hjD : j ≤ D := by omega
          clear hj
          have c2 : wr.cell? ⟨b, 2, none⟩ = some (.slice (some ⟨L, 0, none⟩) lg.length lg.length) := by
            have := (m_blk h).cell 2
            rw [fillG_len] at this
            exact this
          by_cases hlt : j < D
          · have hlt' : q + j < (fillG q j lg).length := by rw [fillG_len]; omega
            obtain ⟨p, hp⟩ : ∃ p, (fillG q j lg)[q + j]? = some p := ⟨_, List.getElem?_eq_getElem hlt'⟩
            obtain ⟨p0, p1, p2, p3⟩ := m_page h hp
            have z0 := (m_list h).frozen ((q + j) * 4)
            have z1 := (m_list h).frozen ((q + j) * 4 + 1)
            have z2 := (m_list h).frozen ((q + j) * 4 + 2)
            have z3 := (m_list h).frozen ((q + j) * 4 + 3)
            have h9 := m_plain h hp 3 0 false
            have H9 := Lib.hid h9
            clear h9 hp h
            go_wp2_with fail
            go_roundg (gk - 1)
            case measure => have := HJ.out; omega
            case rel => exact ⟨j + 1, by have := HJ.out; omega, by go_num, H9.out⟩
          · have hje : j = D := by omega
            subst hje
            have m1 := M.out.fill q j hqD
            have hlt' : q < (fillG q j lg).length := by rw [fillG_len]; omega
            obtain ⟨p, hp⟩ : ∃ p, (fillG q j lg)[q]? = some p := ⟨_, List.getElem?_eq_getElem hlt'⟩
            obtain ⟨p0, p1, p2, p3⟩ := m_page h hp
            have z0 := (m_list h).frozen (q * 4)
            have z1 := (m_list h).frozen (q * 4 + 1)
            have z2 := (m_list h).frozen (q * 4 + 2)
            have z3 := (m_list h).frozen (q * 4 + 3)
            have h9 := m_plain h hp 2 x false
            have m2 := m1.set hp (⟨2, x, [], false⟩, 0) (.inr ⟨(by show (2 : Int) ≠ 1; decide), rfl, (by show (0 : Int) ≤ 2; decide), (by show (2 : Int) ≤ 3; decide), fun _ => ⟨by show 1 ≤ x; omega, hx⟩⟩) (fun _ => by rw [fillG_len]; show (q : Int) + pgs n x ≤ _; rw [HCv.out]; omega)
            have H9 := Lib.hid h9
            have M9 := Lib.hid m2
            clear h9 hp h m1 m2 hlt hlt'
            go_wp2_with fail
            refine (begin_in q H9.out M9.out (by omega)).mono ?_
            rintro e w7 ⟨rfl, r, rfl⟩
            go_wp2_with fail
            go_ret2
            refine ⟨?_, _, H9.out.drewN r, ?_⟩
            · rw [HE.out.1]; rfl
            · rw [HE.out.2, List.map_set, fillG_map]
end
end Go.Proofs.Ytjgjablmkljfoaa.Ma
