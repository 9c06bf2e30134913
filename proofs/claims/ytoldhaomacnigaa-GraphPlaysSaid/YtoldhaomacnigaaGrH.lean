/- Contracts of package graph: what is live. No condition. -/
import Derived.Test.YtoldhaomacnigaaGrG
set_option linter.unusedVariables false
set_option linter.unusedSimpArgs false
namespace Go.Proofs.Ytoldhaomacnigaa.Gr
open Go.RowKit Go.Proofs.Ytoldhaomacnigaa.W
section
variable {W w : World} {oo : Nat → Prop} {g H : Nat} {s : GS} {N : NL}
theorem row_cell {l : List Pr} {e : TypeId} {A : Option Addr} {n c : Nat} {xs : List Value} (h : SepO W oo w l) (k : Nat) (hk : l[k]? = some (rowP e A n c xs)) {i : Nat} (hi : i < n) : ∃ G off, A = some ⟨G, off, none⟩ ∧ w.cell? ⟨G, off + i, none⟩ = xs[i]? ∧ n ≤ c := by
  obtain ⟨o, hq, _⟩ := h.row k hk
  obtain ⟨G, off, hA, _, _, hc, _⟩ := hq.at_ hi
  exact ⟨G, off, hA, hc i hi, hq.2.1⟩
set_option maxHeartbeats 2000000 in
theorem live_in (h : SepO W oo w (gparts g H s.largest s.hs N)) (hs : s.ok) (hN : N.map (·.1) = s.nodes) (hn : N.length ≤ 1000) :
    Calls Try.prog 29 #[pt g] w fun e w' => ∃ M O mg A c, e = .returned (.tuple #[.slice A (live s).length c, .map (some mg)]) ∧ SepO W oo w' (gparts g H s.largest s.hs N ++ lv M O mg A c N (live s)) := by
  have hN1 : N.length = s.nodes.length := by rw [← hN]; simp
  have hlv : bfs s N.length 0 (meetL [] s.hs) = live s := by unfold live; rw [hN1]
  have hok : OutOk N.length (meetL [] s.hs) := (OutOk.nil _).meet (fun x hx => by rw [hN1]; exact hs.hs x hx)
  have c0 := (g_blk h).cell 0
  have lg := (g_blk h).lt
  simp at c0
  have h3 := ((h.new_pmap.new_blk 63 #[.map (some w.heap.size)]).new_blk 49 #[.slice none 0 0]).nil_row 59
  have h4 : SepO W oo (((w.alloc (.map #[] 0)).alloc (.cells #[.map (some w.heap.size)] 63)).alloc (.cells #[.slice none 0 0] 49)) (gparts g H s.largest s.hs N ++ lv (w.heap.size + 1) (w.heap.size + 1 + 1) w.heap.size none 0 N []) := by
    rw [List.append_assoc, List.append_assoc, List.append_assoc] at h3
    have := h3.tail_pick [1, 2, 0, 3] (by decide)
    simpa [lv, atl] using this
  obtain ⟨R, hR⟩ : ∃ R, live s = R := ⟨_, rfl⟩
  rw [hR] at hlv ⊢
  have cg : ∀ X, SepO W oo X (gparts g H s.largest s.hs N) → X.cell? ⟨g, 0, none⟩ = some (slv H s.hs.length) := fun X hX => by have := (g_blk hX).cell 0; simpa using this
  have c3 := cg _ h4.first
  have c2 := cg _ ((h.alloc (.map #[] 0)).alloc (.cells #[.map (some w.heap.size)] 63))
  have H4 := Lib.hid h4
  have HLV := Lib.hid hlv
  have HOK := Lib.hid hok
  have HS := Lib.hid hs
  have HN := Lib.hid hN
  have HN1 := Lib.hid hN1
  have hl := hs.hlen
  have hmm := @run_makeMap Try.prog
  clear h h3 h4 hlv hok hs hN hN1 hR cg
  go_enter Try.func29, Try.ntmps29
  go_wp2_with fail
  refine (meet_in (j0 := 1) H4.out rfl (fun x hx => by rw [HN1.out]; exact HS.out.hs x hx) hl (OutOk.nil _) hn).mono ?_
  rintro e w1 ⟨rfl, A1, k1, h1⟩
  obtain ⟨M, hM⟩ : ∃ M, w.heap.size + 1 = M := ⟨_, rfl⟩
  rw [hM] at h1
  have H1 := Lib.hid h1
  simp only [hM]
  clear h1 H4 c0 c2 c3 lg
  generalize w.heap.size = mg at *
  clear hM
  go_wp2_with fail
  go_loopg [7] N.length (fun gk z wr => ∃ (n : Nat) (out : List Nat) (A : Option Addr) (c : Nat), n + gk = N.length ∧ z = .int .i64 n ∧ n ≤ out.length ∧ OutOk N.length out ∧ bfs s gk n out = R ∧ SepO W oo wr (gparts g H s.largest s.hs N ++ lv M (M + 1) mg A c N out))
  case atStart => exact ⟨0, _, A1, k1, by omega, rfl, Nat.zero_le _, HOK.out, HLV.out, H1.out⟩
  case round =>
    clear H1 HOK HLV
    obtain ⟨n, out, A, c, hj, rfl, hno, hok, hb, h⟩ := hrel
    have HJ := Lib.hid hj
    have hol := hok.len
    obtain ⟨f1, f2, f3⟩ := lv_facts h
    have cM := f1.cell 0
    have cO := f2.cell 0
    simp at cM cO
    by_cases hlt : n < out.length
    · obtain ⟨f, rfl⟩ : ∃ f, gk = f + 1 := ⟨gk - 1, by omega⟩
      obtain ⟨x, hx⟩ : ∃ x, out[n]? = some x := ⟨_, List.getElem?_eq_getElem hlt⟩
      have hxm := List.mem_of_getElem? hx
      unfold bfs at hb
      rw [hx] at hb
      simp only [] at hb
      obtain ⟨p, hp, hp1, hpv⟩ := node_at HS.out HN.out (hok.pos x hxm) (by rw [← HN1.out]; exact hok.le x hxm)
      obtain ⟨G, off, rfl, hcell, hnc⟩ := row_cell h ((gparts g H s.largest s.hs N).length + 3) (e := 59) (A := A) (n := out.length) (c := c) (xs := out.map (pv N)) (by simp [lv]) hlt
      have cx : wr.cell? ⟨G, off + n, none⟩ = some (pt p.2.b) := by rw [hcell, List.getElem?_map, hx]; simp [hpv]
      have cr : wr.cell? ⟨p.2.b, 0, none⟩ = some (slv p.2.r p.1.refs.length) := by have := (g_node h.first hp).cell 0; simpa using this
      have hnok := (nod_at HS.out (hok.pos x hxm) (by rw [← HN1.out]; exact hok.le x hxm)).2
      rw [← hp1] at hb hnok
      have hrl : p.1.refs.length ≤ 64 := by have := hnok.2.2; omega
      have hmt := meet_in h (g_part hp (j := 1) (by omega)) (fun y hy => by rw [HN1.out]; exact hnok.1 y hy) hrl hok hn
      have hok2 : OutOk N.length (meetL out p.1.refs) := hok.meet (fun y hy => by rw [HN1.out]; exact hnok.1 y hy)
      obtain ⟨m, hm⟩ := meet_pre (l := p.1.refs) out
      have hle : out.length ≤ (meetL out p.1.refs).length := by rw [hm]; simp
      have HB := Lib.hid hb
      have HO2 := Lib.hid hok2
      have HM := Lib.hid hmt
      clear hb hok2 hmt hm h hp hp1 hpv hnok f1 f2 f3 hx hxm hcell hj hok
      go_wp2_with fail
      refine HM.out.mono ?_
      rintro e w2 ⟨rfl, A2, c2, h2⟩
      have H2 := Lib.hid h2
      clear h2 HM
      go_wp2_with fail
      go_roundg f
      case measure => omega
      case rel => exact ⟨n + 1, _, A2, c2, by have := HJ.out; omega, by go_num, by omega, HO2.out, HB.out, H2.out⟩
    · have hR : out = R := by
        have hx : out[n]? = none := List.getElem?_eq_none (by omega)
        cases gk with
        | zero => exact hb
        | succ f => unfold bfs at hb; rw [hx] at hb; exact hb
      subst hR
      have H1 := Lib.hid h
      clear h hb hok f1 f2 f3 hj
      go_wp2_with fail
      go_quiet (fail)
      go_wp2_with fail
      go_ret2
      exact ⟨M, M + 1, mg, A, c, rfl, H1.out.drewN _⟩
end
end Go.Proofs.Ytoldhaomacnigaa.Gr
