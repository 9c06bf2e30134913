/- The reference's space: Take of a cell. No condition. -/
import Derived.Test.YtjgjablmkljfoaaMrF
import Derived.Deep.QuietTactic
import Derived.BigQuiet
set_option linter.unusedVariables false
set_option linter.unusedSimpArgs false
namespace Go.Proofs.Ytjgjablmkljfoaa.Mr
open Go.RowKit Go.Proofs.Ytjgjablmkljfoaa.W Go.Proofs.Ytjgjablmkljfoaa.Cl Go.Proofs.Ytjgjablmkljfoaa.Ma Go.Proofs.Ytjgjablmkljfoaa.CR
def pdB (s : RS) (c : Ce) : Bool := s.pd[(ofI s c.a).toNat]?.getD false
def candB (s : RS) (z : Int) (c : Ce) : Bool := !c.u && (!c.g && (c.n == z && !pdB s c))
def lessB (s : RS) (c : Ce) : Option Nat → Bool
  | none => true
  | some j => match s.cs[j]? with | none => true | some d => decide (c.a < d.a)
def bst (s : RS) (z : Int) : List Ce → Nat → Option Nat → Option Nat
  | [], _, bt => bt
  | c :: r, i, bt => bst s z r (i + 1) (if candB s z c && lessB s c bt then some i else bt)
def bI : Option Nat → Int
  | none => -1
  | some j => j
def rfirst (s : RS) : Nat → Nat → Option Nat
  | 0, _ => none
  | d + 1, n => if freeB s n then some n else rfirst s d (n + 1)
def pcell (s : RS) (n : Nat) (z : Int) (k : Nat) : Ce := ⟨s.f + n * s.w + k * z, z, k == 0, false⟩
def pgc (s : RS) (n : Nat) (z : Int) (k : Nat) : List Ce := (List.range k).map (pcell s n z)
def useC (c : Ce) : Ce := ⟨c.a, c.n, true, c.g⟩
section
variable {W w : World} {oo : Nat → Prop} {b g : Nat} {A : Option Addr} {c : Nat} {s : RS}
theorem pd_at (hs : s.ok) {p : Ce} (hp : p ∈ s.cs) : 0 ≤ ofI s p.a ∧ ofI s p.a < s.p ∧ (ofI s p.a).toNat < s.p ∧ (∀ h : SepO W oo w (rparts b g A c s), w.cell? ⟨g, (ofI s p.a).toNat, none⟩ = some (.bool (pdB s p))) := by
  have h5 := hs.cs p hp
  unfold RS.cok at h5
  have h6 := hs.w0
  have h0 := of_b hs h5.1
  have h1 : ofI s p.a < s.p := (Int.ediv_lt_iff_lt_mul (by omega)).2 (by omega)
  refine ⟨h0.1, h1, by omega, fun h => ?_⟩
  rw [(r_pd h).cell, bools_get (by have := hs.pd; omega)]
  rfl
set_option maxRecDepth 20000 in
set_option maxHeartbeats 8000000 in
theorem Take_small (x : Int) (h : SepO W oo w (rparts b g A c s)) (hs : s.ok) (hx : 1 ≤ x) {z : Int} (hz : rnd x = z) (hb : ¬ s.w / 2 < z) (hlen : s.cs.length < 19000) : Calls Try.prog 20 #[pt b, .int .i64 x] w fun e w' =>
    (∃ j p, bst s z s.cs 0 none = some j ∧ s.cs[j]? = some p ∧ e = .returned (.tuple #[.int .i64 p.a, .bool true]) ∧ SepO W oo w' (rparts b g A c { s with cs := s.cs.set j (useC p) })) ∨
    (bst s z s.cs 0 none = none ∧ rfirst s s.p 0 = none ∧ e = .returned (.tuple #[.int .i64 0, .bool false]) ∧ SepO W oo w' (rparts b g A c s)) ∨
    (∃ n, bst s z s.cs 0 none = none ∧ rfirst s s.p 0 = some n ∧ e = .returned (.tuple #[.int .i64 (s.f + n * s.w), .bool true]) ∧ ∃ A' c', SepO W oo w' (rparts b g A' c' { s with cs := s.cs ++ pgc s n z (s.w / z).toNat })) := by
  obtain ⟨i1, i2, i3, i4, i5⟩ := info_parts info_cell
  have hw0 := hs.w0
  have hw1 := hs.w1
  have hp1 := hs.p1
  have hf0 := hs.f0
  have hf1 := hs.f1
  obtain ⟨V, hV⟩ : ∃ V, bst s z s.cs 0 none = V := ⟨_, rfl⟩
  rw [hV]
  have HV := Lib.hid hV
  obtain ⟨V2, hV2⟩ : ∃ V, rfirst s s.p 0 = V := ⟨_, rfl⟩
  rw [hV2]
  have HVF := Lib.hid hV2
  clear hV2
  have H := Lib.hid h
  have c2 := (r_b h).cell 2
  simp at c2
  have hrb := rnd_b x
  rw [hz] at hrb
  obtain ⟨hrb0, hrb1⟩ := hrb
  have hz9 : z ≤ 128 := by omega
  have HR := Lib.hid hz
  obtain ⟨D, hD⟩ : ∃ D : Nat, s.w / z = D := ⟨(s.w / z).toNat, by have := Int.ediv_nonneg (by omega : 0 ≤ s.w) (by omega : 0 ≤ z); omega⟩
  have hD9 : D ≤ 64 := by
    have h1 : s.w / z < 65 := (Int.ediv_lt_iff_lt_mul (by omega)).2 (by omega)
    omega
  have hDk : ∀ k : Nat, ((k : Int) + 1) * z ≤ s.w ↔ k < D := fun k => by
    rw [← Int.le_ediv_iff_mul_le (by omega), hD]; omega
  rw [hD, Int.toNat_natCast]
  have HD := Lib.hid hD
  have HDK := Lib.hid hDk
  clear hD hDk
  have d1 : decide (s.w.tdiv 2 < z) = false := by rw [Int.tdiv_eq_ediv_of_nonneg (by omega)]; simpa using hb
  clear h hV hz
  go_enter Try.func20, Try.ntmps20
  go_wp2_with fail
  refine (Round_calls x _).mono ?_
  rintro e w1 ⟨rfl, rfl⟩
  rw [HR.out]
  go_wp2_with fail
  clear c2 d1
  go_loopg [12, 13, 14] s.cs.length (fun gk bi ii y wr => ∃ (i : Nat) (bt : Option Nat), i + gk = s.cs.length ∧ ii = .int .i64 i ∧ bi = .int .i64 (bI bt) ∧ (∀ j, bt = some j → j < s.cs.length) ∧ bst s z (s.cs.drop i) i bt = V ∧ SepO W oo wr (rparts b g A c s))
  case atStart => exact ⟨0, none, by omega, rfl, rfl, by simp, by rw [List.drop_zero]; exact HV.out, H.out⟩
  case round =>
    clear H HV
    obtain ⟨i, bt, hi, rfl, rfl, hbt, hv, h⟩ := hrel
    have HI := Lib.hid hi
    have hil : i ≤ s.cs.length := by omega
    have c3 := (r_b h).cell 3
    have c4 := (r_b h).cell 4
    simp at c3 c4
    clear hi
    by_cases hlt : i < s.cs.length
    · obtain ⟨p, hp⟩ : ∃ p, s.cs[i] = p := ⟨_, rfl⟩
      have hp' : s.cs[i]? = some p := by rw [List.getElem?_eq_getElem hlt, hp]
      obtain ⟨G, rfl, y0, y1, y2, y3, hG, -⟩ := r_c h hp'
      obtain ⟨q0, q1, q2, q3⟩ := hs.cell (List.mem_of_getElem? hp')
      obtain ⟨o0, o1, o2, o3⟩ := pd_at hs (List.mem_of_getElem? hp') (W := W) (w := wr) (oo := oo) (b := b) (g := g) (A := some ⟨G, 0, none⟩) (c := c)
      have o4 := o3 h
      rw [List.drop_eq_getElem_cons hlt, hp] at hv
      unfold bst at hv
      have HBT := Lib.hid hbt
      have hgl := (r_pd h).lt
      have hbl := (r_b h).lt
      have H := Lib.hid h
      have hof : ∀ m, Calls Try.prog 39 #[pt b, .int .i64 p.a] ((wr.alloc (.cells #[.int .i64 p.a, .int .i64 p.n, .bool p.u, .bool p.g] 63)).drewN m) fun e w'' => e = .returned (.int .i64 (ofI s p.a)) ∧ ∃ n, w'' = ((wr.alloc (.cells #[.int .i64 p.a, .int .i64 p.n, .bool p.u, .bool p.g] 63)).drewN m).drewN n := fun m => of_sep p.a ((h.alloc _).drewN m) hs q1 (by omega)
      have HOF := Lib.hid hof
      have H2 := Lib.hid (h.alloc (.cells #[.int .i64 p.a, .int .i64 p.n, .bool p.u, .bool p.g] 63))
      have hbt2 : bI bt = -1 ∧ lessB s p bt = true ∧ bt = none ∨ ∃ j d, bt = some j ∧ j < s.cs.length ∧ s.cs[j]? = some d ∧ lessB s p bt = decide (p.a < d.a) ∧ wr.cell? ⟨G, j * 4, none⟩ = some (.int .i64 d.a) := by
        cases bt with
        | none => exact .inl ⟨rfl, rfl, rfl⟩
        | some j =>
          have hj := hbt j rfl
          obtain ⟨G', e', z0, _⟩ := r_c h (List.getElem?_eq_getElem hj)
          cases e'
          exact .inr ⟨j, s.cs[j], rfl, hj, List.getElem?_eq_getElem hj, by simp [lessB, List.getElem?_eq_getElem hj], z0⟩
      have HB2 := Lib.hid hbt2
      obtain ⟨tu, htu⟩ : ∃ tu, p.u = tu := ⟨_, rfl⟩
      obtain ⟨tg, htg⟩ : ∃ tg, p.g = tg := ⟨_, rfl⟩
      obtain ⟨tn, htn⟩ : ∃ tn, (p.n == z) = tn := ⟨_, rfl⟩
      obtain ⟨tp, htp⟩ : ∃ tp, pdB s p = tp := ⟨_, rfl⟩
      have hcand : candB s z p = (!tu && (!tg && (tn && !tp))) := by unfold candB; rw [htu, htg, htn, htp]
      rw [hcand] at hv
      rw [htu] at y2 H2 HOF
      rw [htg] at y3 H2 HOF
      rw [htp] at o4
      have HV := Lib.hid hv
      clear hv h hp hp' hbt hof hbt2 o3 hcand htu htg htp
      cases tu
      · cases tg
        · cases tn
          · have hv2 : bst s z (s.cs.drop (i + 1)) (i + 1) bt = V := by simpa using HV.out
            have HV2 := Lib.hid hv2
            clear hv2 HV
            go_wp2_with fail
            go_quiet ((go_at_call 39; exact Calls.quiet_of (HOF.out _)))
            go_wp2_with fail
            go_roundg (gk - 1)
            case measure => have := HI.out; omega
            case rel => exact ⟨i + 1, bt, by have := HI.out; omega, by go_num, rfl, HBT.out, HV2.out, H2.out.drewN _⟩
          · cases tp
            · rcases HB2.out with ⟨e1, e2, rfl⟩ | ⟨j, d, rfl, hj, hd, e2, z0⟩
              · have hv2 : bst s z (s.cs.drop (i + 1)) (i + 1) (some i) = V := by have := HV.out; rw [e2] at this; simpa using this
                clear e2 HB2
                rw [e1]
                have HV2 := Lib.hid hv2
                clear hv2 HV
                go_wp2_with fail
                go_quiet ((go_at_call 39; exact Calls.quiet_of (HOF.out _)))
                go_wp2_with fail
                go_roundg (gk - 1)
                case measure => have := HI.out; omega
                case rel => exact ⟨i + 1, some i, by have := HI.out; omega, by go_num, rfl, fun j hj => by cases hj; omega, HV2.out, H2.out.drewN _⟩
              · have ebj : bI (some j) = (j : Int) := rfl
                rw [ebj]
                cases hl : decide (p.a < d.a)
                · have hv2 : bst s z (s.cs.drop (i + 1)) (i + 1) (some j) = V := by have := HV.out; rw [e2, hl] at this; simpa using this
                  have HV2 := Lib.hid hv2
                  have djl : decide ((j : Int) < 0) = false := by simp
                  clear hv2 HV e2 HB2 ebj hd
                  go_wp2_with fail
                  go_quiet ((go_at_call 39; exact Calls.quiet_of (HOF.out _)))
                  go_wp2_with fail
                  go_roundg (gk - 1)
                  case measure => have := HI.out; omega
                  case rel => exact ⟨i + 1, some j, by have := HI.out; omega, by go_num, rfl, HBT.out, HV2.out, H2.out.drewN _⟩
                · have hv2 : bst s z (s.cs.drop (i + 1)) (i + 1) (some i) = V := by have := HV.out; rw [e2, hl] at this; simpa using this
                  have djl : decide ((j : Int) < 0) = false := by simp
                  clear e2 HB2 ebj hd
                  have HV2 := Lib.hid hv2
                  clear hv2 HV
                  go_wp2_with fail
                  go_quiet ((go_at_call 39; exact Calls.quiet_of (HOF.out _)))
                  go_wp2_with fail
                  go_roundg (gk - 1)
                  case measure => have := HI.out; omega
                  case rel => exact ⟨i + 1, some i, by have := HI.out; omega, by go_num, rfl, fun j hj => by cases hj; omega, HV2.out, H2.out.drewN _⟩
            · have hv2 : bst s z (s.cs.drop (i + 1)) (i + 1) bt = V := by simpa using HV.out
              have HV2 := Lib.hid hv2
              clear hv2 HV
              go_wp2_with fail
              go_quiet ((go_at_call 39; exact Calls.quiet_of (HOF.out _)))
              go_wp2_with fail
              go_roundg (gk - 1)
              case measure => have := HI.out; omega
              case rel => exact ⟨i + 1, bt, by have := HI.out; omega, by go_num, rfl, HBT.out, HV2.out, H2.out.drewN _⟩
        · have hv2 : bst s z (s.cs.drop (i + 1)) (i + 1) bt = V := by simpa using HV.out
          have HV2 := Lib.hid hv2
          clear hv2 HV
          go_wp2_with fail
          go_quiet ((go_at_call 39; exact Calls.quiet_of (HOF.out _)))
          go_wp2_with fail
          go_roundg (gk - 1)
          case measure => have := HI.out; omega
          case rel => exact ⟨i + 1, bt, by have := HI.out; omega, by go_num, rfl, HBT.out, HV2.out, H2.out.drewN _⟩
      · have hv2 : bst s z (s.cs.drop (i + 1)) (i + 1) bt = V := by simpa using HV.out
        have HV2 := Lib.hid hv2
        clear hv2 HV
        go_wp2_with fail
        go_quiet ((go_at_call 39; exact Calls.quiet_of (HOF.out _)))
        go_wp2_with fail
        go_roundg (gk - 1)
        case measure => have := HI.out; omega
        case rel => exact ⟨i + 1, bt, by have := HI.out; omega, by go_num, rfl, HBT.out, HV2.out, H2.out.drewN _⟩
    · rw [List.drop_of_length_le (by omega)] at hv
      unfold bst at hv
      have HVB := Lib.hid hv
      have H := Lib.hid h
      clear h hv
      cases bt with
      | some j =>
        have hj := hbt j rfl
        obtain ⟨p, hp⟩ : ∃ p, s.cs[j]? = some p := ⟨s.cs[j], List.getElem?_eq_getElem hj⟩
        have ebj : bI (some j) = (j : Int) := rfl
        rw [ebj]
        obtain ⟨G, rfl, y0, y1, y2, y3, hG, hfz⟩ := r_c H.out hp
        have f2 := hfz (j * 4 + 2)
        have h2 := r_set H.out hp (j := 2) (by omega) (u := .bool true) (q := useC p) rfl
        have z0 : (wr.setCell ⟨G, j * 4 + 2, none⟩ (.bool true)).cell? ⟨G, j * 4, none⟩ = some (.int .i64 p.a) := by
          have hp2 : (s.cs.set j (useC p))[j]? = some (useC p) := by rw [List.getElem?_set_self hj]
          obtain ⟨G', e', z0, _⟩ := r_c h2 (s := { s with cs := s.cs.set j (useC p) }) hp2
          cases e'
          exact z0
        have H2 := Lib.hid h2
        have HP := Lib.hid hp
        clear hp h2 hfz ebj hbt
        go_wp2_with fail
        go_ret2
        exact .inl ⟨j, p, HVB.out.symm, HP.out, rfl, H2.out⟩
      | none =>
        have ebj : bI none = -1 := rfl
        rw [ebj]
        clear ebj hbt
        go_wp2_with fail
        clear hlt c3 c4
        go_loopg [15, 16, 17] s.p (fun gk ii y1 y2 wr => ∃ n : Nat, gk = s.p - n ∧ n ≤ s.p ∧ ii = .int .i64 n ∧ rfirst s gk n = V2 ∧ SepO W oo wr (rparts b g A c s))
        case atStart => exact ⟨0, by omega, by omega, rfl, HVF.out, H.out⟩
        case round =>
          clear H HVF HI
          obtain ⟨n, hn, hnp, rfl, hv, h⟩ := hrel
          have HG := Lib.hid hn
          have c1 := (r_b h).cell 1
          simp at c1
          clear hn
          by_cases hlt : n < s.p
          · obtain ⟨d, hd⟩ : ∃ d, gk = d + 1 := ⟨gk - 1, by have := HG.out; omega⟩
            rw [hd] at hv
            unfold rfirst at hv
            have HD2 := Lib.hid hd
            have HV := Lib.hid hv
            have H := Lib.hid h
            clear h hd hv
            go_wp2_with fail
            refine (free_in n H.out hs).mono ?_
            rintro e w3 ⟨rfl, h3⟩
            have hv := HV.out
            obtain ⟨fb, hfb⟩ : ∃ fb, freeB s (n : Int) = fb := ⟨_, rfl⟩
            rw [hfb] at hv ⊢
            have c0 := (r_b h3).cell 0
            have c2 := (r_b h3).cell 2
            simp at c0 c2
            have H3 := Lib.hid h3
            clear h3 H c1 hfb HV
            cases hf : fb
            · rw [hf, if_neg (by simp)] at hv
              have HV := Lib.hid hv
              clear hv hf
              go_wp2_with fail
              go_roundg d
              case measure => have := HD2.out; omega
              case rel => exact ⟨n + 1, by have := HG.out; have := HD2.out; omega, by omega, by go_num, HV.out, H3.out⟩
            · rw [hf, if_pos rfl] at hv
              have HV := Lib.hid hv
              clear hv hf
              have hn64 : n ≤ 64 := by omega
              have m1 : 0 ≤ (n : Int) * s.w := Int.mul_nonneg (by omega) (by omega)
              have m2 : (n : Int) * s.w ≤ 64 * 256 := Int.mul_le_mul (by omega) hw1 (by omega) (by omega)
              obtain ⟨a, ha⟩ : ∃ a, (n : Int) * s.w = a := ⟨_, rfl⟩
              rw [ha] at m1 m2
              have s1 : IntKind.i64.wrap ((n : Int) * s.w) = a := by rw [ha]; exact IntWalk.i64_in a (by omega)
              have s2 := IntWalk.i64_in (s.f + a) (by omega)
              have HA := Lib.hid ha
              clear ha
              go_wp2_with fail
              go_quiet (fail)
              go_wp2_with fail
              have H4 := Lib.hid (H3.out.drewN nq)
              clear H3 c0 c2
              generalize w3.drewN nq = w4 at H4 ⊢
              obtain ⟨gz, rfl⟩ : ∃ x, x = gk := ⟨_, rfl⟩
              go_loopg [17] D (fun gk kk wr => ∃ (k : Nat) (A' : Option Addr) (c' : Nat), k + gk = D ∧ kk = .int .i64 k ∧ SepO W oo wr (rparts b g A' c' { s with cs := s.cs ++ pgc s n z k }))
              case atStart => exact ⟨0, A, c, by omega, rfl, by simpa [pgc] using H4.out⟩
              case round =>
                clear H4
                obtain ⟨k, A', c', hk, rfl, h⟩ := hrel
                have HK := Lib.hid hk
                have hkD : k ≤ D := by omega
                have hll : (s.cs ++ pgc s n z k).length = s.cs.length + k := by simp [pgc]
                obtain ⟨l, hl⟩ : ∃ l, s.cs ++ pgc s n z k = l := ⟨_, rfl⟩
                rw [hl] at h hll
                have hlb : l.length < 19100 := by omega
                have HLE := Lib.hid hl
                have c2 := (r_b h).cell 2
                have c3 := (r_b h).cell 3
                have zf := (r_b h).frozen 3
                have hbl := (r_b h).lt
                simp at c2 c3
                clear hl hll
                have p1 : 0 ≤ (k : Int) * z := Int.mul_nonneg (by omega) (by omega)
                have p2 : (k : Int) * z ≤ 64 * 128 := Int.mul_le_mul (by omega) hz9 (by omega) (by omega)
                have p3 : ((k : Int) + 1) * z = (k : Int) * z + z := by rw [Int.add_mul, Int.one_mul]
                clear hk
                have H := Lib.hid h
                have hdk := HDK.out k
                rw [p3] at hdk
                obtain ⟨kz, hkz⟩ : ∃ q, (k : Int) * z = q := ⟨_, rfl⟩
                rw [hkz] at p1 p2 p3 hdk
                have HKZ := Lib.hid hkz
                clear h
                by_cases hlt2 : k < D
                · have t1 : decide (kz + z ≤ s.w) = true := by simpa using hdk.2 hlt2
                  have t2 : ((k : Int) == 0) = (k == 0) := by
                    cases k with
                    | zero => rfl
                    | succ k => simp; omega
                  clear hdk
                  go_wp2_with (at_builtin; refine wpList_append_rowK rfl _ _ 43 rfl 63 i1 (.agg #[.int .i64 0, .int .i64 0, .bool false, .bool false]) 4 24 Try.underlying43 i2 i3 i4 i5 rfl (by decide) (.slice A' l.length c') l.length (ccs l) rfl (H.out.alloc (.cells #[.int .i64 (s.f + a + kz), .int .i64 z, .bool (k == 0), .bool false] 63)) 1 rfl ⟨wr.heap.size, 0, none⟩ [.int .i64 (s.f + a + kz), .int .i64 z, .bool (k == 0), .bool false] rfl rfl ?c1 ?c2 ?c3 ?c4 ?_)
                  case c1 => exact fun j u hu => new4 wr _ _ _ _ _ j u hu
                  case c2 => intro u hu; simp at hu; rcases hu with rfl | rfl | rfl | rfl <;> rfl
                  case c3 => omega
                  case c4 => omega
                  intro A2 d2 w5 h5
                  have zc := (h5.blk (g := b) 0 rfl).cell 3
                  have zf2 := (h5.blk (g := b) 0 rfl).frozen 3
                  have zl := (h5.blk (g := b) 0 rfl).lt
                  have h6 : SepO W oo (w5.setCell ⟨b, 3, none⟩ (.slice A2 (l.length + 1) d2)) (rparts b g A2 d2 { s with cs := s.cs ++ pgc s n z (k + 1) }) := by
                    have e1 : s.cs ++ pgc s n z (k + 1) = l ++ [pcell s n z k] := by
                      rw [← HLE.out]
                      unfold pgc
                      rw [List.range_succ, List.map_append, List.append_assoc]
                      rfl
                    have e2 : (l ++ [pcell s n z k]).length = l.length + 1 := by simp
                    have := r_app H.out (l := l ++ [pcell s n z k]) (A' := A2) (c' := d2) (w' := w5) (by
                      rw [e2, ccs_app]
                      unfold pcell
                      rw [HA.out, HKZ.out]
                      exact h5)
                    rw [e1, ← e2]
                    exact this
                  have H6 := Lib.hid h6
                  clear h5 h6 H c2 c3 zf hbl
                  go_wp2_with fail
                  go_roundg (gk - 1)
                  case measure => have := HK.out; omega
                  case rel => exact ⟨k + 1, A2, d2, by have := HK.out; omega, by go_num, H6.out⟩
                · have t1 : decide (kz + z ≤ s.w) = false := by simpa using fun h => hlt2 (hdk.1 h)
                  have hkD2 : k = D := by omega
                  have H2 := H.out
                  rw [← HLE.out, hkD2] at H2
                  have H2' := Lib.hid H2
                  clear hdk hkD2 H2
                  go_wp2_with fail
                  go_ret2
                  obtain rfl := HA.out
                  exact .inr (.inr ⟨n, HVB.out.symm, HV.out.symm, rfl, _, _, H2'.out⟩)
          · have hn0 : s.p - n = 0 := by omega
            rw [HG.out, hn0] at hv
            unfold rfirst at hv
            have HV := Lib.hid hv
            have H := Lib.hid h
            clear h hv hn0
            go_wp2_with fail
            go_ret2
            exact .inr (.inl ⟨HVB.out.symm, HV.out.symm, rfl, H.out⟩)
end
end Go.Proofs.Ytjgjablmkljfoaa.Mr
