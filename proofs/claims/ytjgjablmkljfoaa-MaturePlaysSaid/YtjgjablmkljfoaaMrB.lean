/- The reference's space: New, Count, Pend. No condition. -/
import Derived.Test.YtjgjablmkljfoaaMrA
import Derived.Test.YtjgjablmkljfoaaCut
import Derived.Deep.RegionLaw
set_option linter.unusedVariables false
set_option linter.unusedSimpArgs false
namespace Go.Proofs.Ytjgjablmkljfoaa.Mr
open Go.RowKit Go.Proofs.Ytjgjablmkljfoaa.W Go.Proofs.Ytjgjablmkljfoaa.Cl Go.Proofs.Ytjgjablmkljfoaa.Ma Go.Proofs.Ytjgjablmkljfoaa.Sm
def rnew (fr ps wd : Int) : RS := ⟨cut fr 0 1048576, (cut ps 0 64).toNat, cut wd 1 256, [], List.replicate (cut ps 0 64).toNat false⟩
theorem cut_b {x lo hi : Int} (h : lo ≤ hi) : lo ≤ cut x lo hi ∧ cut x lo hi ≤ hi := by unfold cut; (repeat' split) <;> omega
theorem rnew_ok (fr ps wd : Int) : (rnew fr ps wd).ok := by
  have h1 := cut_b (x := fr) (lo := 0) (hi := 1048576) (by omega)
  have h2 := cut_b (x := ps) (lo := 0) (hi := 64) (by omega)
  have h3 := cut_b (x := wd) (lo := 1) (hi := 256) (by omega)
  exact ⟨h1.1, h1.2, by show (cut ps 0 64).toNat ≤ 64; omega, h3.1, h3.2, by simp [rnew], by simp [rnew], by simp [rnew]⟩
section
variable {W w : World} {oo : Nat → Prop} {b g : Nat} {A : Option Addr} {c : Nat} {s : RS} {l : List Pr}
theorem New_in (fr ps wd : Int) (h : SepO W oo w l) : Calls Try.prog 19 #[.int .i64 fr, .int .i64 ps, .int .i64 wd] w fun e w' => ∃ b g, e = .returned (pt b) ∧ SepO W oo w' (l ++ rparts b g none 0 (rnew fr ps wd)) := by
  obtain ⟨D, hD⟩ : ∃ D : Nat, cut ps 0 64 = D := ⟨(cut ps 0 64).toNat, by have := cut_b (x := ps) (lo := 0) (hi := 64) (by omega); omega⟩
  have hDb := cut_b (x := ps) (lo := 0) (hi := 64) (by omega)
  have hF := cut_b (x := fr) (lo := 0) (hi := 1048576) (by omega)
  have hW := cut_b (x := wd) (lo := 1) (hi := 256) (by omega)
  unfold rnew
  rw [hD] at hDb ⊢
  rw [Int.toNat_natCast]
  have hcp : ∀ w, Calls Try.prog 35 #[.int .i64 ps, .int .i64 0, .int .i64 64] w fun e w' => e = .returned (.int .i64 (D : Int)) ∧ w = w' := fun w => by
    have := Cut_calls ps 0 64 w
    rwa [hD] at this
  obtain ⟨F, eF⟩ : ∃ F, cut fr 0 1048576 = F := ⟨_, rfl⟩
  obtain ⟨C, eC⟩ : ∃ C, cut wd 1 256 = C := ⟨_, rfl⟩
  have hcf : ∀ w, Calls Try.prog 35 #[.int .i64 fr, .int .i64 0, .int .i64 1048576] w fun e w' => e = .returned (.int .i64 F) ∧ w = w' := fun w => by
    have := Cut_calls fr 0 1048576 w
    rwa [eF] at this
  have hcw : ∀ w, Calls Try.prog 35 #[.int .i64 wd, .int .i64 1, .int .i64 256] w fun e w' => e = .returned (.int .i64 C) ∧ w = w' := fun w => by
    have := Cut_calls wd 1 256 w
    rwa [eC] at this
  rw [eF, eC]
  rw [eF] at hF
  rw [eC] at hW
  obtain ⟨i, hi, hz, hs, hby⟩ := info_parts info_bool
  have hmk : ∀ W : World, (Instr.makeSlice 35 (.int .i64 (D : Int)) (.int .i64 (D : Int))).run Try.prog W = .ok (.slice (some ⟨W.heap.size, 0, none⟩) D D) (W.alloc (.cells (bools (List.replicate D false)) 4)) := fun W => by
    have h := run_make_rowN 35 4 i (.bool false) Try.underlying35 hi hz .i64 .i64 D D (Nat.le_refl _) (by rw [hby]; omega) (by omega) W
    rw [h, hs]
    have : madeCells (Value.bool false).cells (D * 1) = bools (List.replicate D false) := by
      apply Array.ext
      · simp [madeCells, bools]
      · intro k h1 h2; simp [madeCells, bools, Value.cells, Nat.mod_one]
    rw [this]
  have hlast : SepO W oo ((w.alloc (.cells #[.int .i64 F, .int .i64 (D : Int), .int .i64 C, .slice none 0 0, .slice (some ⟨w.heap.size + 1, 0, none⟩) D D] 45)).alloc (.cells (bools (List.replicate D false)) 4)) (l ++ rparts w.heap.size (w.heap.size + 1) none 0 ⟨F, D, C, [], List.replicate D false⟩) := by
    have h1 := ((h.new_blk 45 #[.int .i64 F, .int .i64 (D : Int), .int .i64 C, .slice none 0 0, .slice (some ⟨w.heap.size + 1, 0, none⟩) D D]).new_blk 4 (bools (List.replicate D false))).nil_rowK 63 4
    rw [World.size_alloc, List.append_assoc, List.append_assoc] at h1
    exact h1.tail_pick [0, 2, 1] (by decide)
  have HL := Lib.hid hlast
  have HCP := Lib.hid hcp
  have HCF := Lib.hid hcf
  have HCW := Lib.hid hcw
  clear h hlast hcp hcf hcw hi hz hs hby eF eC hD
  go_enter Try.func19, Try.ntmps19
  go_wp2_with fail
  refine (HCF.out _).mono ?_
  rintro e w1 ⟨rfl, rfl⟩
  go_wp2_with fail
  refine (HCP.out _).mono ?_
  rintro e w1 ⟨rfl, rfl⟩
  go_wp2_with fail
  refine (HCW.out _).mono ?_
  rintro e w1 ⟨rfl, rfl⟩
  go_wp2_with fail
  go_ret
  exact ⟨_, _, rfl, HL.out⟩
def frN (s : RS) (n : Nat) : Int := ((List.range n).countP (fun k : Nat => freeB s k) : Nat)
def usS (l : List Ce) : Int := (l.map fun c => if c.u then c.n else 0).sum
theorem usS_cons (c : Ce) (r : List Ce) : usS (c :: r) = (if c.u then c.n else 0) + usS r := rfl
theorem usS_b {s : RS} (hs : s.ok) : ∀ l : List Ce, (∀ c ∈ l, c ∈ s.cs) → 0 ≤ usS l ∧ usS l ≤ l.length * 2000000 := by
  intro l
  induction l with
  | nil => intro _; simp [usS]
  | cons c r ih =>
    intro h
    have h1 := ih (fun d hd => h d (List.mem_cons_of_mem _ hd))
    have h2 := hs.cell (h c List.mem_cons_self)
    simp only [usS, List.map_cons, List.sum_cons, List.length_cons] at h1 ⊢
    split <;> omega
set_option maxHeartbeats 1000000 in
theorem Count_in (h : SepO W oo w (rparts b g A c s)) (hs : s.ok) : Calls Try.prog 41 #[pt b] w fun e w' => e = .returned (.tuple #[.int .i64 (frN s s.p), .int .i64 (usS s.cs)]) ∧ SepO W oo w' (rparts b g A c s) := by
  have hl := hs.len
  have hp64 := hs.p1
  obtain ⟨V1, hV1⟩ : ∃ V, frN s s.p = V := ⟨_, rfl⟩
  obtain ⟨V2, hV2⟩ : ∃ V, usS s.cs = V := ⟨_, rfl⟩
  rw [hV1, hV2]
  have E1 := Lib.hid hV1
  have E2 := Lib.hid hV2
  have H := Lib.hid h
  clear h hV1 hV2
  go_enter Try.func41, Try.ntmps41
  go_wp2_with fail
  go_loopg [2, 4] s.p (fun gk o z wr => ∃ (j : Nat) (r : Int), j + gk = s.p ∧ z = .int .i64 j ∧ o = .int .i64 r ∧ 0 ≤ r ∧ r ≤ j ∧ r = frN s j ∧ SepO W oo wr (rparts b g A c s))
  case atStart => exact ⟨0, 0, by omega, rfl, rfl, by omega, by omega, rfl, H.out⟩
  case round =>
    clear H
    obtain ⟨j, r, hj, rfl, rfl, r0, r1, hr, h⟩ := hrel
    have HJ := Lib.hid hj
    have HR := Lib.hid hr
    have hjl : j ≤ s.p := by omega
    have c1 := (r_b h).cell 1
    simp at c1
    have H := Lib.hid h
    clear hj hr h
    by_cases hlt : j < s.p
    · go_wp2_with fail
      refine (free_in j H.out hs).mono ?_
      rintro e w1 ⟨rfl, h1⟩
      have H1 := Lib.hid h1
      clear H h1 c1
      have hn : frN s (j + 1) = frN s j + if freeB s j = true then 1 else 0 := by
        unfold frN
        rw [List.range_succ, List.countP_append, List.countP_singleton]
        split <;> simp
      cases hf : freeB s j
      · rw [hf] at hn
        have HN := Lib.hid hn
        clear hn hf
        go_wp2_with fail
        go_roundg (gk - 1)
        case measure => have := HJ.out; omega
        case rel => exact ⟨j + 1, r, by have := HJ.out; omega, by go_num, rfl, by omega, by omega, by rw [HN.out, HR.out]; simp, H1.out⟩
      · rw [hf] at hn
        have HN := Lib.hid hn
        clear hn hf
        go_wp2_with fail
        go_roundg (gk - 1)
        case measure => have := HJ.out; omega
        case rel => exact ⟨j + 1, r + 1, by have := HJ.out; omega, by go_num, by go_num, by omega, by omega, by rw [HN.out, HR.out]; simp, H1.out⟩
    · have hjp : j = s.p := by omega
      obtain rfl : r = V1 := by rw [HR.out, hjp]; exact E1.out
      clear HR E1 hjp
      go_wp2_with fail
      go_loopg [3, 5] s.cs.length (fun gk o z wr => ∃ (j : Nat) (u : Int), j + gk = s.cs.length ∧ z = .int .i64 j ∧ o = .int .i64 u ∧ 0 ≤ u ∧ u ≤ j * 2000000 ∧ u + usS (s.cs.drop j) = V2 ∧ SepO W oo wr (rparts b g A c s))
      case atStart => exact ⟨0, 0, by omega, rfl, rfl, by omega, by omega, by rw [List.drop_zero, E2.out]; omega, H.out⟩
      case round =>
        clear H c1 HJ E2
        obtain ⟨j, u, hj, rfl, rfl, u0, u1, hu, h⟩ := hrel
        have HJ := Lib.hid hj
        have hjl : j ≤ s.cs.length := by omega
        have c3 := (r_b h).cell 3
        simp at c3
        clear hj
        by_cases hlt : j < s.cs.length
        · obtain ⟨p, hp⟩ : ∃ p, s.cs[j] = p := ⟨_, rfl⟩
          have hp' : s.cs[j]? = some p := by rw [List.getElem?_eq_getElem hlt, hp]
          obtain ⟨G, rfl, y0, y1, y2, y3, hG, -⟩ := r_c h hp'
          obtain ⟨q0, q1, q2, q3⟩ := hs.cell (List.mem_of_getElem? hp')
          rw [List.drop_eq_getElem_cons hlt, hp] at hu
          rw [usS_cons] at hu
          have H := Lib.hid h
          clear h hp hp'
          cases hpu : p.u
          · rw [hpu] at y2 hu
            have HU := Lib.hid hu
            clear hu hpu
            go_wp2_with fail
            go_roundg (gk - 1)
            case measure => have := HJ.out; omega
            case rel => exact ⟨j + 1, u, by have := HJ.out; omega, by go_num, rfl, by omega, by omega, by have := HU.out; simp at this; omega, H.out⟩
          · rw [hpu] at y2 hu
            have HU := Lib.hid hu
            clear hu hpu
            go_wp2_with fail
            go_roundg (gk - 1)
            case measure => have := HJ.out; omega
            case rel => exact ⟨j + 1, u + p.n, by have := HJ.out; omega, by go_num, by go_num, by omega, by omega, by have := HU.out; simp at this; omega, H.out⟩
        · rw [List.drop_of_length_le (by omega)] at hu
          simp only [usS, List.map_nil, List.sum_nil, Int.add_zero] at hu
          subst hu
          have H := Lib.hid h
          clear h
          go_wp2_with fail
          go_ret2
          exact ⟨rfl, H.out⟩
theorem step_callN {P : Program} {ops : Array Oper} {o : Oper} {a : Act} {w : World} {K : Act → World → Prop} {Q : Exit → Act → World → Prop} {E : Prop} (hgd : Region.wanted o (yielded ops a.tmps) = true) (F : FuncId) (args : Array Value) (v : Value)
    (hx : (execOp a.eval o).run P w = .ok (.enter F args) w) (hc : Calls P F args w fun e w' => e = .returned v ∧ ∃ n, w' = w.drewN n) (hw : ∀ n, K (a.put o.dst v) (w.drewN n)) : if Region.wanted o (yielded ops a.tmps) = true then Oper.wp P o a w K Q else E := by
  rw [if_pos hgd]
  unfold Oper.wp
  rw [hx, Oper.upon_enter]
  refine hc.mono ?_
  rintro e w' ⟨rfl, n, rfl⟩
  exact hw n
def pdF (s : RS) (n : Nat) : Bool := s.cs.any fun c => ofI s c.a == (n : Int)
def RS.pend (s : RS) : RS := { s with pd := (List.range s.p).map (pdF s) }
set_option maxRecDepth 20000 in
set_option maxHeartbeats 4000000 in
theorem Pend_in (h : SepO W oo w (rparts b g A c s)) (hs : s.ok) : Calls Try.prog 22 #[pt b] w fun e w' => e = .returned (.tuple #[]) ∧ SepO W oo w' (rparts b g A c s.pend) := by
  have hl := hs.len
  have hp64 := hs.p1
  have H := Lib.hid h
  clear h
  go_enter Try.func22, Try.ntmps22
  go_wp2_with fail
  go_loopg [2, 3] s.p (fun gk z y wr => ∃ (n : Nat) (X : List Bool), n + gk = s.p ∧ z = .int .i64 n ∧ X.length = s.p ∧ (∀ j, j < n → X[j]? = some (pdF s j)) ∧ SepO W oo wr (rparts b g A c { s with pd := X }))
  case atStart => exact ⟨0, s.pd, by omega, rfl, hs.pd, fun j hj => by omega, H.out⟩
  case round =>
    clear H
    obtain ⟨n, X, hn, rfl, hX, hXj, h⟩ := hrel
    have HJ := Lib.hid hn
    have HX := Lib.hid hXj
    have hnp : n ≤ s.p := by omega
    have c1 := (r_b h).cell 1
    have c4 := (r_b h).cell 4
    simp at c1 c4
    have hbg : ¬ b = g := (r_b h).ne_ (r_pd h) (by decide)
    have hbg' : ¬ g = b := fun e => hbg e.symm
    clear hn hXj
    by_cases hlt : n < s.p
    · have hc := (r_pd h).cell n
      have hf := (r_pd h).frozen n
      have hgl := (r_pd h).lt
      rw [bools_get (by simp; omega)] at hc
      have h1 := h.set_blk 2 rfl n (.bool false)
      rw [bools_set] at h1
      have h1' : SepO W oo (w := wr.setCell ⟨g, n, none⟩ (.bool false)) (rparts b g A c { s with pd := X.set n false }) := h1
      have H1 := Lib.hid h1'
      clear h h1 h1'
      go_wp2_with fail
      obtain ⟨gz, rfl⟩ : ∃ x, x = gk := ⟨_, rfl⟩
      go_loopg [3] s.cs.length (fun gk z wr => ∃ (i : Nat) (X : List Bool), i + gk = s.cs.length ∧ z = .int .i64 i ∧ X.length = s.p ∧ (∀ j, j < n → X[j]? = some (pdF s j)) ∧ X[n]? = some ((s.cs.take i).any fun c => ofI s c.a == (n : Int)) ∧ SepO W oo wr (rparts b g A c { s with pd := X }))
      case atStart => exact ⟨0, X.set n false, by omega, rfl, by simp [hX], fun j hj => by rw [List.getElem?_set_ne (by omega)]; exact HX.out j hj, by simp [hX, hlt], H1.out⟩
      case round =>
        clear H1 HX hc hf c1 c4 hgl
        obtain ⟨i, X, hi, rfl, hX, hXj, hXn, h⟩ := hrel
        have HI := Lib.hid hi
        have HX := Lib.hid hXj
        have hil : i ≤ s.cs.length := by omega
        have c3 := (r_b h).cell 3
        have c4 := (r_b h).cell 4
        simp at c3 c4
        clear hi hXj
        by_cases hlt2 : i < s.cs.length
        · obtain ⟨p, hp⟩ : ∃ p, s.cs[i] = p := ⟨_, rfl⟩
          have hp' : s.cs[i]? = some p := by rw [List.getElem?_eq_getElem hlt2, hp]
          obtain ⟨G, rfl, y0, y1, y2, y3, hG, -⟩ := r_c h (s := { s with pd := X }) hp'
          obtain ⟨q0, q1, q2, q3⟩ := hs.cell (List.mem_of_getElem? hp')
          have hc := (r_pd h).cell n
          have hf := (r_pd h).frozen n
          have hgl := (r_pd h).lt
          rw [bools_get (by simp; omega)] at hc
          simp only [hXn, Option.getD_some] at hc
          have h1 := fun u => h.set_blk 2 rfl n (.bool u)
          have h1' : ∀ u, SepO W oo (w := wr.setCell ⟨g, n, none⟩ (.bool u)) (rparts b g (some ⟨G, 0, none⟩) c { s with pd := X.set n u }) := fun u => by
            have := h1 u
            rw [bools_set] at this
            exact this
          have hnx : (s.cs.take (i + 1)).any (fun c => ofI s c.a == (n : Int)) = ((s.cs.take i).any (fun c => ofI s c.a == (n : Int)) || (ofI s p.a == (n : Int))) := by
            rw [List.take_add_one, hp', List.any_append]; simp
          have h1m : ∀ (m : Nat) (u : Bool), SepO W oo (w := (wr.drewN m).setCell ⟨g, n, none⟩ (.bool u)) (rparts b g (some ⟨G, 0, none⟩) c { s with pd := X.set n u }) := fun m u => by
            have := (h.drewN m).set_blk 2 rfl n (.bool u)
            rw [bools_set] at this
            exact this
          have H1 := Lib.hid h1'
          have H1M := Lib.hid h1m
          have HNX := Lib.hid hnx
          have hof : ∀ w', w'.cell? ⟨b, 0, none⟩ = some (.int .i64 s.f) ∧ w'.cell? ⟨b, 2, none⟩ = some (.int .i64 s.w) → Calls Try.prog 39 #[pt b, .int .i64 p.a] w' fun e w'' => e = .returned (.int .i64 (ofI s p.a)) ∧ ∃ n, w'' = w'.drewN n := fun w' hh => of_calls p.a w' hs hh.1 hh.2 q1 (by omega)
          have HOF := Lib.hid hof
          have c0 := (r_b h).cell 0
          have c2 := (r_b h).cell 2
          simp at c0 c2
          clear h h1 h1' h1m hp hp' hnx hof
          cases hany : (s.cs.take i).any (fun c => ofI s c.a == (n : Int))
          · rw [hany] at hc
            have HXL := Lib.hid hX
            have HHL := Lib.hid hl
            have HANY := Lib.hid hany
            have HNP := Lib.hid hnp
            clear hX hXn y1 y2 y3 hany
            go_wp2_with fail
            have HIL := Lib.hid hil
            clear hl hil hp64 hnp q0 q1 q2 q3
            go_region_with ((go_at_call 39; (with_reducible refine (HOF.out _ ?hx).mono ?_); (case hx => exact ⟨c0, c2⟩); rintro e w4 ⟨rfl, n1, rfl⟩))
            all_goals
              have hnp := HNP.out
              have hl := HHL.out
              have hil := HIL.out
              go_wp2_with fail
              go_roundg (gk - 1)
              case measure => have := HI.out; omega
              case rel => exact ⟨i + 1, X.set n (ofI s p.a == (n : Int)), by have := HI.out; omega, by go_num, by simp [HXL.out], fun j hj => by rw [List.getElem?_set_ne (by omega)]; exact HX.out j hj, by rw [List.getElem?_set_self (by rw [HXL.out]; omega), HNX.out, HANY.out, Bool.false_or], H1M.out _ _⟩
          · rw [hany] at hc
            have h2 := H1.out true
            rw [hany, Bool.true_or] at HNX
            have HN := Lib.hid h2
            clear H1 h2
            go_wp2_with fail
            go_region
            go_wp2_with fail
            go_roundg (gk - 1)
            case measure => have := HI.out; omega
            case rel => exact ⟨i + 1, X.set n true, by have := HI.out; omega, by go_num, by simp [hX], fun j hj => by rw [List.getElem?_set_ne (by omega)]; exact HX.out j hj, by rw [List.getElem?_set_self (by omega), HNX.out], HN.out.drew⟩
        · have H := Lib.hid h
          clear h
          go_wp2_with fail
          go_roundg (gz - 1)
          case measure => have := HJ.out; omega
          case rel =>
            refine ⟨n + 1, X, by have := HJ.out; omega, by go_num, hX, fun j hj => ?_, H.out⟩
            by_cases e : j = n
            · subst e
              rw [hXn, List.take_of_length_le (by omega)]
              rfl
            · exact HX.out j (by omega)
    · have e : { s with pd := X } = s.pend := by
        unfold RS.pend
        congr 1
        apply List.ext_getElem?
        intro j
        by_cases hj : j < s.p
        · rw [HX.out j (by omega), List.getElem?_map, List.getElem?_range hj]; rfl
        · rw [List.getElem?_eq_none (by omega), List.getElem?_eq_none (by simp; omega)]
      rw [e] at h
      have H := Lib.hid h
      clear h e
      go_wp2_with fail
      go_end0
      exact ⟨rfl, H.out⟩
end
end Go.Proofs.Ytjgjablmkljfoaa.Mr
