/- The reference's space: Give. No condition. -/
import Derived.Test.YtjgjablmkljfoaaMrA
set_option linter.unusedVariables false
set_option linter.unusedSimpArgs false
namespace Go.Proofs.Ytjgjablmkljfoaa.Mr
open Go.RowKit Go.Proofs.Ytjgjablmkljfoaa.W Go.Proofs.Ytjgjablmkljfoaa.Cl Go.Proofs.Ytjgjablmkljfoaa.Ma
theorem info_cell : (Try.prog.info? 63).map (fun i => (i.zero, i.size, i.bytes)) = some (some (.agg #[.int .i64 0, .int .i64 0, .bool false, .bool false]), 4, 24) := by kernel_rfl
theorem new4 (w : World) (t : TypeId) (a b c d : Value) (j : Nat) (u : Value) (h : [a, b, c, d][j]? = some u) : (w.alloc (.cells #[a, b, c, d] t)).cell? ((⟨w.heap.size, 0, none⟩ : Addr).add j) = some u := by
  have h1 := (Blk.new w t #[a, b, c, d]).cell j
  have e : ((⟨w.heap.size, 0, none⟩ : Addr).add j) = ⟨w.heap.size, j, none⟩ := by
    rcases j with _ | j <;> simp [Addr.add]
  rw [e, h1, ← h]
  simp
def unu (c : Ce) : Ce := ⟨c.a, c.n, false, c.g⟩
/-- Give, as a function. -/
def giveK (s : RS) (n : Int) (l : List Ce) : RS := if l.any (fun c => (ofI s c.a == n) && c.u) then { s with cs := l } else { s with cs := l.filter (fun c => !(ofI s c.a == n)), pd := s.pd.set n.toNat false }
def RS.give (s : RS) (x : Int) : RS := if 0 ≤ fnd x s.cs 0 then giveK s (ofI s x) (s.cs.modify (fnd x s.cs 0).toNat unu) else s
section
variable {W w : World} {oo : Nat → Prop} {b g : Nat} {A : Option Addr} {c : Nat} {s : RS}
set_option maxRecDepth 20000 in
set_option maxHeartbeats 4000000 in
theorem Give_in (x : Int) (h : SepO W oo w (rparts b g A c s)) (hs : s.ok) (hx : -9223372036854775808 ≤ x ∧ x ≤ 9223372036854775807) : Calls Try.prog 21 #[pt b, .int .i64 x] w fun e w' => e = .returned (.bool (fhas x s)) ∧ ∃ A' c', SepO W oo w' (rparts b g A' c' (s.give x)) := by
  obtain ⟨i1, i2, i3, i4, i5⟩ := info_parts info_cell
  have c3 := (r_b h).cell 3
  simp at c3
  have hl := hs.len
  have H := Lib.hid h
  obtain ⟨V1, hV1⟩ : ∃ V, fhas x s = V := ⟨_, rfl⟩
  obtain ⟨V2, hV2⟩ : ∃ V, s.give x = V := ⟨_, rfl⟩
  rw [hV1, hV2]
  have E1 := Lib.hid hV1
  have E2 := Lib.hid hV2
  clear h hV1 hV2
  go_enter Try.func21, Try.ntmps21
  go_wp2_with fail
  refine (find_in x H.out hs).mono ?_
  rintro e w1 ⟨rfl, rfl⟩
  rcases fnd_b (x := x) (l := s.cs) (i := 0) with ⟨h1, h2⟩ | ⟨k, p, h1, h2, h3, h4⟩
  · obtain rfl : V1 = false := E1.out.symm.trans (by unfold fhas; rw [h1]; rfl)
    obtain rfl : V2 = s := E2.out.symm.trans (by unfold RS.give; rw [h1]; rfl)
    rw [h1]
    clear h1 h2 E1 E2
    go_wp2_with fail
    go_ret
    exact ⟨rfl, A, c, H.out⟩
  · rw [Nat.zero_add] at h1
    obtain rfl : V1 = true := E1.out.symm.trans (by unfold fhas; rw [h1]; simp)
    have e2 : giveK s (ofI s x) (s.cs.set k (unu p)) = V2 := by
      rw [← E2.out]
      unfold RS.give
      rw [h1, if_pos (by omega), Int.toNat_natCast, modify_set h2]
    rw [h1]
    obtain ⟨G, rfl, y0, y1, y2, y3, hG, hfz⟩ := r_c H.out h2
    have hk := (List.getElem?_eq_some_iff.1 h2).1
    obtain ⟨q0, q1, q2, q3⟩ := hs.cell (List.mem_of_getElem? h2)
    rw [h3] at q0 q1 q3
    have f2 := hfz (k * 4 + 2)
    have hst := r_set H.out h2 (j := 2) (by omega) (u := .bool false) (q := unu p) rfl
    have hs1 : ({ s with cs := s.cs.set k (unu p) } : RS).ok := ⟨hs.f0, hs.f1, hs.p1, hs.w0, hs.w1, hs.pd, by simpa using hs.len, fun c hc => by
      rcases List.mem_or_eq_of_mem_set hc with hc | rfl
      · exact hs.cs c hc
      · exact hs.cs p (List.mem_of_getElem? h2)⟩
    obtain ⟨l, hl1⟩ : ∃ l, s.cs.set k (unu p) = l := ⟨_, rfl⟩
    rw [hl1] at hst e2 hs1
    have hll : l.length = s.cs.length := by rw [← hl1]; simp
    have HST := Lib.hid hst
    have HE2 := Lib.hid e2
    have hof : ofI { s with cs := l } x = ofI s x := rfl
    have hnb := of_b hs q1
    obtain ⟨n, hn⟩ : ∃ n : Nat, ofI s x = n := ⟨(ofI s x).toNat, by omega⟩
    have hnp : n < s.p := by
      have h5 := hs.cs p (List.mem_of_getElem? h2)
      unfold RS.cok at h5
      rw [h3] at h5
      have h6 := hs.w0
      have : ofI s x < s.p := (Int.ediv_lt_iff_lt_mul (by omega)).2 (by omega)
      omega
    have HLL := Lib.hid hll
    clear H h1 h2 h3 h4 E1 E2 hst e2 hl1 hll hof hfz y0 y1 y3 q2
    go_wp2_with fail
    refine (of_sep x HST.out hs1 q1 (by omega)).mono ?_
    rintro e w2 ⟨rfl, n2, rfl⟩
    have hn' : ofI { s with cs := l } x = n := hn
    rw [hn']
    have HN := Lib.hid hn
    have HS2 := Lib.hid (HST.out.drewN n2)
    clear HST hn hn' hnb y2 f2 c3
    go_wp2_with fail
    go_loopg [7, 8] l.length (fun gk o z wr => ∃ (j : Nat) (B : Bool), j + gk = l.length ∧ z = .int .i64 j ∧ o = .bool B ∧ (l.take j).any (fun c => (ofI s c.a == n) && c.u) = B ∧ SepO W oo wr (rparts b g (some ⟨G, 0, none⟩) c { s with cs := l }))
    case atStart => exact ⟨0, false, by omega, rfl, rfl, rfl, HS2.out⟩
    case round =>
      clear HS2
      obtain ⟨j, B, hj, rfl, rfl, hB, h⟩ := hrel
      have HJ := Lib.hid hj
      have HB := Lib.hid hB
      have hll := HLL.out
      have hjl : j ≤ l.length := by omega
      have hlm : l.length ≤ 20000 := by omega
      have c3 := (r_b h).cell 3
      simp at c3
      clear hj hB hll hl
      by_cases hlt : j < l.length
      · obtain ⟨p, hp⟩ : ∃ p, l[j] = p := ⟨_, rfl⟩
        have hp' : l[j]? = some p := by rw [List.getElem?_eq_getElem hlt, hp]
        have hnx : (l.take (j + 1)).any (fun c => (ofI s c.a == n) && c.u) = (B || ((ofI s p.a == n) && p.u)) := by
          rw [List.take_add_one, hp', List.any_append, HB.out]; simp
        obtain ⟨G', e', y0, y1, y2, y3, hG', -⟩ := r_c h (s := { s with cs := l }) hp'
        cases e'
        obtain ⟨u0, u1, u2, u3⟩ := hs1.cell (List.mem_of_getElem? hp')
        have HNX := Lib.hid hnx
        have H := Lib.hid h
        clear h hp hp' hnx
        cases hBt : B
        · rw [hBt] at HNX
          clear hBt
          go_wp2_with fail
          refine (of_sep p.a H.out hs1 u1 (by omega)).mono ?_
          rintro e w3 ⟨rfl, n3, rfl⟩
          have H3 := Lib.hid (H.out.drewN n3)
          obtain ⟨m, hm⟩ : ∃ m, ofI { s with cs := l } p.a = m := ⟨_, rfl⟩
          have hm' : ofI s p.a = m := hm
          rw [hm'] at HNX
          rw [hm]
          have HM := Lib.hid hm
          clear hm hm' H
          by_cases hmn : m = n
          · have d1 : (m == n) = true := by simpa using hmn
            rw [d1, Bool.true_and, Bool.false_or] at HNX
            clear hmn
            go_wp2_with fail
            go_roundg (gk - 1)
            case measure => have := HJ.out; omega
            case rel => exact ⟨j + 1, p.u, by have := HJ.out; omega, by go_num, rfl, HNX.out, H3.out⟩
          · have d1 : (m == n) = false := by simpa using hmn
            rw [d1, Bool.false_and, Bool.false_or] at HNX
            clear hmn
            go_wp2_with fail
            go_roundg (gk - 1)
            case measure => have := HJ.out; omega
            case rel => exact ⟨j + 1, false, by have := HJ.out; omega, by go_num, rfl, HNX.out, H3.out⟩
        · rw [hBt, Bool.true_or] at HNX
          clear hBt
          go_wp2_with fail
          go_roundg (gk - 1)
          case measure => have := HJ.out; omega
          case rel => exact ⟨j + 1, true, by have := HJ.out; omega, by go_num, rfl, HNX.out, H.out⟩
      · have hB := HB.out
        rw [List.take_of_length_le (by omega)] at hB
        have hE := HE2.out
        rw [HN.out] at hE
        unfold giveK at hE
        have H := Lib.hid h
        cases hBt : B
        · rw [hBt] at hB
          rw [hB, if_neg (by simp)] at hE
          have h1 := h.new_rowK 63 4 #[] 0 (by decide) rfl
          have H1 := Lib.hid h1
          have HE := Lib.hid hE
          clear h h1 H hE hB hBt HB HE2
          go_wp2_with fail
          go_loopg [9, 10] l.length (fun gk o z wr => ∃ (j : Nat) (A' : Option Addr) (d : Nat) (R : List Ce), j + gk = l.length ∧ z = .int .i64 j ∧ o = .slice A' R.length d ∧ R.length ≤ j ∧ (l.take j).filter (fun c => !(ofI s c.a == n)) = R ∧ SepO W oo wr (rparts b g (some ⟨G, 0, none⟩) c { s with cs := l } ++ [rowK 63 4 (.slice A' R.length d) R.length (ccs R)]))
          case atStart => exact ⟨0, _, 0, [], by omega, rfl, rfl, by simp, rfl, H1.out⟩
          case round =>
            clear H1 HJ hlt c3
            obtain ⟨j, A', d, R, hj, rfl, rfl, hRj, hR, h⟩ := hrel
            have HJ := Lib.hid hj
            have HR := Lib.hid hR
            have hjl : j ≤ l.length := by omega
            have c3 := (r_b h.first).cell 3
            simp at c3
            clear hj hR
            by_cases hlt : j < l.length
            · obtain ⟨p, hp⟩ : ∃ p, l[j] = p := ⟨_, rfl⟩
              have hp' : l[j]? = some p := by rw [List.getElem?_eq_getElem hlt, hp]
              have hnx : (l.take (j + 1)).filter (fun c => !(ofI s c.a == n)) = R ++ (if ofI s p.a == n then [] else [p]) := by
                rw [List.take_add_one, hp', List.filter_append, HR.out]
                cases hh : (ofI s p.a == n) <;> simp [hh]
              obtain ⟨G', e', y0, y1, y2, y3, hG', -⟩ := r_c h.first (s := { s with cs := l }) hp'
              cases e'
              obtain ⟨u0, u1, u2, u3⟩ := hs1.cell (List.mem_of_getElem? hp')
              have HNX := Lib.hid hnx
              have H := Lib.hid h
              clear h hp hp' hnx
              go_wp2_with fail
              refine (of_sep p.a H.out.first hs1 u1 (by omega)).mono ?_
              rintro e w3 ⟨rfl, n3, rfl⟩
              have H3 := Lib.hid (H.out.drewN n3)
              obtain ⟨m, hm⟩ : ∃ m, ofI { s with cs := l } p.a = m := ⟨_, rfl⟩
              have hm' : ofI s p.a = m := hm
              rw [hm'] at HNX
              rw [hm]
              have HM := Lib.hid hm
              clear hm hm' H
              by_cases hmn : m = n
              · have d1 : (m == n) = true := by simpa using hmn
                rw [d1, if_pos rfl, List.append_nil] at HNX
                have d2 : (m != n) = false := by simpa using hmn
                clear hmn
                go_wp2_with fail
                go_roundg (gk - 1)
                case measure => have := HJ.out; omega
                case rel => exact ⟨j + 1, A', d, R, by have := HJ.out; omega, by go_num, rfl, by omega, HNX.out, H3.out⟩
              · have d1 : (m == n) = false := by simpa using hmn
                rw [d1, if_neg (by simp)] at HNX
                have d2 : (m != n) = true := by simpa using hmn
                clear hmn
                go_wp2_with (at_builtin; refine wpList_append_rowK rfl _ _ 43 rfl 63 i1 (.agg #[.int .i64 0, .int .i64 0, .bool false, .bool false]) 4 24 Try.underlying43 i2 i3 i4 i5 rfl (by decide) (.slice A' R.length d) R.length (ccs R) rfl (H3.out.alloc (.cells #[.int .i64 p.a, .int .i64 p.n, .bool p.u, .bool p.g] 63)) 3 rfl ⟨wr.heap.size, 0, none⟩ (ccell p) rfl rfl ?c1 ?c2 ?c3 ?c4 ?_)
                case c1 => exact fun j u hu => new4 (wr.drewN n3) _ _ _ _ _ j u hu
                case c2 => intro u hu; simp [ccell] at hu; rcases hu with rfl | rfl | rfl | rfl <;> rfl
                case c3 => omega
                case c4 => omega
                intro A2 d2 w4 h4
                have h5 : SepO W oo w4 (rparts b g (some ⟨G, 0, none⟩) c { s with cs := l } ++ [rowK 63 4 (.slice A2 (R ++ [p]).length d2) (R ++ [p]).length (ccs (R ++ [p]))]) := by
                  rw [ccs_app, List.length_append]
                  exact h4
                have HL : (R ++ [p]).length = R.length + 1 := by simp
                have H5 := Lib.hid h5
                clear h4 h5
                rw [← HL]
                go_wp2_with fail
                go_roundg (gk - 1)
                case measure => have := HJ.out; omega
                case rel => exact ⟨j + 1, A2, d2, R ++ [p], by have := HJ.out; omega, by go_num, rfl, by omega, HNX.out, H5.out⟩
            · have hR := HR.out
              rw [List.take_of_length_le (by omega)] at hR
              have hE := HE.out
              rw [hR, Int.toNat_natCast] at hE
              have hp0 := hs.p1
              have hpd := hs.pd
              have c4 := (r_b h.first).cell 4
              have zc := (r_pd h.first).cell n
              have zf := (r_pd h.first).frozen n
              have bf := (r_b h.first).frozen 3
              have hgl := (r_pd h.first).lt
              have hbl := (r_b h.first).lt
              simp at c4
              rw [bools_get (by simp; omega)] at zc
              have hbg : ¬ b = g := (r_b h.first).ne_ (r_pd h.first) (by decide)
              have hbg' : ¬ g = b := fun e => hbg e.symm
              have h1 := (h.set_blk 0 rfl 3 (.slice A' R.length d)).set_blk (t := 4) (cs := bools s.pd) (g := g) 2 rfl n (.bool false)
              rw [bools_set] at h1
              have h2 := h1.pick [0, 3, 2] (by decide)
              have h3 : SepO W oo ((wr.setCell ⟨b, 3, none⟩ (.slice A' R.length d)).setCell ⟨g, n, none⟩ (.bool false)) (rparts b g A' d { s with cs := R, pd := s.pd.set n false }) := by
                exact h2
              rw [hE] at h3
              have H3 := Lib.hid h3
              clear h h1 h2 h3 hE hR hpd HR HE
              go_wp2_with fail
              go_ret
              exact ⟨rfl, _, _, H3.out⟩
        · rw [hBt] at hB
          rw [hB, if_pos rfl] at hE
          subst hE
          clear h hB hBt HB HE2
          go_wp2_with fail
          go_ret
          exact ⟨rfl, _, _, H.out⟩
end
end Go.Proofs.Ytjgjablmkljfoaa.Mr
