/- Contracts of the reference's graph over parts of memory: Do. No condition. -/
import Derived.Test.YtoldhaomacnigaaRgD
set_option linter.unusedVariables false
set_option linter.unusedSimpArgs false
namespace Go.Proofs.Ytoldhaomacnigaa.Rg
open Go.RowKit Go.Proofs.Ytoldhaomacnigaa.W Go.Proofs.Ytoldhaomacnigaa Go.Proofs.Ytoldhaomacnigaa.Gr
section
variable {W w : World} {oo : Nat → Prop} {g : Nat} {s s' : GS} {l : List Pr} {F : FuncId} {args : Array Value} {Q : Ending → Prop}
theorem Rph_lift (hc : ∀ (o : Nat → Prop) (k : RK) (N : RL), SepO w o w (rparts g s.largest k s.hs N) → s.ok → N.map (·.1) = s.nodes → Calls Try.prog F args w fun e w' => Q e ∧ ROut w o g s' w') (hs' : s.ok → s'.ok)
    (h : SepO W oo w l) (k : Nat) (hk : l[k]? = some (Rph g s)) : Calls Try.prog F args w fun e w' => Q e ∧ SepO W oo w' (l.set k (Rph g s')) := by
  obtain ⟨o, ⟨⟨K, N⟩, ⟨hok, hn⟩, hsep⟩, _, hup⟩ := h.open_ k hk
  refine (hc o K N (SepO.enter hsep) hok hn).mono ?_
  rintro e w' ⟨hq, K', N', h', hn'⟩
  exact ⟨hq, hup w' (Rph g s') ⟨(K', N'), ⟨hs' hok, hn'⟩, h'.leave⟩ h'.keep0⟩
theorem Rph_read (hc : ∀ (o : Nat → Prop) (k : RK) (N : RL), SepO w o w (rparts g s.largest k s.hs N) → s.ok → N.map (·.1) = s.nodes → Calls Try.prog F args w fun e w' => Q e ∧ Keep (fun _ => False) w w')
    (h : SepO W oo w l) (k : Nat) (hk : l[k]? = some (Rph g s)) : Calls Try.prog F args w fun e w' => Q e ∧ SepO W oo w' l := by
  obtain ⟨o, ⟨⟨K, N⟩, ⟨hok, hn⟩, hsep⟩, _, hup⟩ := h.open_ k hk
  refine (hc o K N (SepO.enter hsep) hok hn).mono ?_
  rintro e w' ⟨hq, h'⟩
  exact ⟨hq, h.stay h'⟩
theorem Rph_ok (h : SepO W oo w l) (k : Nat) (hk : l[k]? = some (Rph g s)) : s.ok := by
  obtain ⟨o, ⟨⟨K, N⟩, ⟨hok, hn⟩, hsep⟩, _⟩ := h.get k hk
  exact hok
end
section
variable {W w : World} {oo : Nat → Prop} {g : Nat} {s : GS} {l : List Pr}
theorem DoR_res (tmps : Array Value) (B : Nat) {x : A5} {a : GA} (h : SepO W oo w (l ++ two B x a)) (h4 : tmps[4]?.getD undef = .pointer (some ⟨B + 1, 0, none⟩)) :
    (results Try.f12 tmps).run Try.prog w = .ok (.agg a.cells) w := by
  obtain ⟨_, ⟨e0, e1, e2, e3⟩, _⟩ := two_cells h
  simp [results, Try.results12, go_sem, h4, e0, e1, e2, e3, GA.cells]
/-- The part of a step that changes something: by its kind. -/
def chg (s : GS) (x : A5) : Int × GS :=
  if x.kind = 1 then gmake s x.a x.b x.c else if x.kind = 2 then gget s x.a x.b x.c else if x.kind = 3 then gset s x.a x.b x.c else if x.kind = 5 then gwrite s x.a x.b x.v else if x.kind = 6 then gclear s x.a else gcopy s x.a x.b
theorem change_sep (x : A5) (hx : x.wf) (hk6 : x.kind = 1 ∨ x.kind = 2 ∨ x.kind = 3 ∨ x.kind = 5 ∨ x.kind = 6 ∨ x.kind = 7) (hnl : s.nodes.length ≤ 1000) (h : SepO W oo w l) (k : Nat) (hk : l[k]? = some (Rph g s)) :
    Calls Try.prog 26 #[pt g, stp x] w fun e w' => e = .returned (.int .i64 (chg s x).1) ∧ SepO W oo w' (l.set k (Rph g (chg s x).2)) := by
  obtain ⟨q, a, b, c, v⟩ := x
  have hv := hx.2.2.2.2
  simp only [] at hk6 hv
  rcases hk6 with rfl | rfl | rfl | rfl | rfl | rfl
  · exact Rph_lift (fun o K N h hs hN => ch_make a b c v h hs hN hnl) (fun hs => gmake_ok hs a b c) h k hk
  · exact Rph_lift (fun o K N h hs hN => ch_get a b c v h hs hN) (fun hs => gget_ok hs a b c) h k hk
  · exact Rph_lift (fun o K N h hs hN => ch_set a b c v h hs hN) (fun hs => gset_ok hs a b c) h k hk
  · exact Rph_lift (fun o K N h hs hN => ch_write a b c v h hs hN) (fun hs => gwrite_ok hs a b v hv) h k hk
  · exact Rph_lift (fun o K N h hs hN => ch_clear a b c v h hs hN) (fun hs => gclear_ok hs a) h k hk
  · exact Rph_lift (fun o K N h hs hN => ch_copy a b c v h hs hN) (fun hs => gcopy_ok hs a b) h k hk
set_option maxRecDepth 20000 in
set_option maxHeartbeats 2000000 in
theorem do_chg (q a b c v : Int) (hx : (⟨q, a, b, c, v⟩ : A5).wf) (hk6 : q = 1 ∨ q = 2 ∨ q = 3 ∨ q = 5 ∨ q = 6 ∨ q = 7) (hnl : s.nodes.length ≤ 1000) (h : SepO W oo w l) (k : Nat) (hk : l[k]? = some (Rph g s)) :
    Calls Try.prog 12 #[pt g, stp ⟨q, a, b, c, v⟩] w fun e w' => e = .returned (.agg (err (chg s ⟨q, a, b, c, v⟩).1).cells) ∧ SepO W oo w' (l.set k (Rph g (chg s ⟨q, a, b, c, v⟩).2)) := by
  obtain ⟨⟨E, T⟩, hE⟩ : ∃ R, chg s ⟨q, a, b, c, v⟩ = R := ⟨_, rfl⟩
  have hkl : k < l.length := (List.getElem?_eq_some_iff.1 hk).1
  have h2 := two_new h ⟨q, a, b, c, v⟩
  have hc := change_sep (l := l ++ two w.heap.size ⟨q, a, b, c, v⟩ (err 0)) ⟨q, a, b, c, v⟩ hx hk6 hnl h2 k (at_left hk)
  rw [hE] at hc ⊢
  simp only [] at hc ⊢
  have HC := Lib.hid hc
  have HKL := Lib.hid hkl
  clear hE h2 h hk hc hkl hx
  rcases hk6 with rfl | rfl | rfl | rfl | rfl | rfl
  all_goals
    go_enter Try.func12, Try.ntmps12
    go_wp2_with fail
    refine HC.out.mono ?_
    rintro e w1 ⟨rfl, h1⟩
    rw [two_swap HKL.out] at h1
    obtain ⟨⟨x0, x1, x2, x3, x4⟩, ⟨a0, a1, a2, a3⟩, fz⟩ := two_cells h1
    have H9 := Lib.hid h1
    simp only [err] at a0 a1 a2 a3
    clear h1
    go_wp2_with fail
    have h5 := two_put H9.out (err E)
    exact bodyPost_ret (DoR_res _ w.heap.size h5 rfl) rfl ⟨rfl, h5.first⟩
theorem do_idle (q a b c v : Int) (hq : q = 11 ∨ q = 12) (h : SepO W oo w l) : Calls Try.prog 12 #[pt g, stp ⟨q, a, b, c, v⟩] w fun e w' => e = .returned (.agg (gidle a).cells) ∧ SepO W oo w' l := by
  obtain ⟨R, hR⟩ : ∃ R, (gidle a).cells = R := ⟨_, rfl⟩
  rw [hR]
  unfold gidle at hR
  have H0 := Lib.hid h
  clear h
  by_cases z0 : a = 0
  · rw [if_pos (.inl z0)] at hR
    subst z0
    have HR := Lib.hid hR
    clear hR
    rcases hq with rfl | rfl
    all_goals
      go_enter Try.func12, Try.ntmps12
      go_wp2_with fail
      refine bodyPost_ret (v := .agg #[.int .i64 0, .bool false, .int .i64 0, .int .u64 0]) (by simp [results, Try.results12, go_sem]) rfl ⟨?_, ?_⟩
      · rw [← HR.out]; rfl
      · first | exact (H0.out.alloc _).alloc _ | exact ((H0.out.alloc _).alloc _).drewN _
  · by_cases z1 : a = 1
    · rw [if_pos (.inr z1)] at hR
      subst z1
      have HR := Lib.hid hR
      clear hR
      rcases hq with rfl | rfl
      all_goals
        go_enter Try.func12, Try.ntmps12
        go_wp2_with fail
        refine bodyPost_ret (v := .agg #[.int .i64 0, .bool false, .int .i64 0, .int .u64 0]) (by simp [results, Try.results12, go_sem]) rfl ⟨?_, ?_⟩
        · rw [← HR.out]; rfl
        · first | exact (H0.out.alloc _).alloc _ | exact ((H0.out.alloc _).alloc _).drewN _
    · rw [if_neg (fun h => h.elim z0 z1)] at hR
      have b0 : (a == 0) = false := by simpa using z0
      have b1 : (a == 1) = false := by simpa using z1
      clear z0 z1
      have HR := Lib.hid hR
      clear hR
      rcases hq with rfl | rfl
      all_goals
        go_enter Try.func12, Try.ntmps12
        go_wp2_with fail
        refine bodyPost_ret (v := .agg #[.int .i64 1, .bool false, .int .i64 0, .int .u64 0]) (by simp [results, Try.results12, go_sem]) rfl ⟨?_, ?_⟩
        · rw [← HR.out]; rfl
        · first | exact (H0.out.alloc _).alloc _ | exact ((H0.out.alloc _).alloc _).drewN _
theorem do_else (q a b c v : Int) (hq : (q == 1) = false ∧ (q == 2) = false ∧ (q == 3) = false ∧ (q == 4) = false ∧ (q == 5) = false ∧ (q == 6) = false ∧ (q == 7) = false ∧ (q == 8) = false ∧ (q == 9) = false ∧ (q == 10) = false ∧ (q == 11) = false ∧ (q == 12) = false) (h : SepO W oo w l) : Calls Try.prog 12 #[pt g, stp ⟨q, a, b, c, v⟩] w fun e w' => e = .returned (.agg (err 1).cells) ∧ SepO W oo w' l := by
  obtain ⟨q1, q2, q3, q4, q5, q6, q7, q8, q9, q10, q11, q12⟩ := hq
  have H0 := Lib.hid h
  clear h
  go_enter Try.func12, Try.ntmps12
  go_wp2_with fail
  refine bodyPost_ret (v := .agg #[.int .i64 1, .bool false, .int .i64 0, .int .u64 0]) (by simp [results, Try.results12, go_sem]) rfl ⟨rfl, ?_⟩
  first | exact (H0.out.alloc _).alloc _ | exact ((H0.out.alloc _).alloc _).drewN _
theorem Do_sep (x : A5) (hx : x.wf) (hnl : s.nodes.length ≤ 1000) (h : SepO W oo w l) (k : Nat) (hk : l[k]? = some (Rph g s)) : Calls Try.prog 12 #[pt g, stp x] w fun e w' => e = .returned (.agg (gdo s x).1.cells) ∧ SepO W oo w' (l.set k (Rph g (gdo s x).2)) := by
  obtain ⟨q, a, b, c, v⟩ := x
  have same : l.set k (Rph g s) = l := set_self hk
  by_cases k6 : q = 1 ∨ q = 2 ∨ q = 3 ∨ q = 5 ∨ q = 6 ∨ q = 7
  · have e : gdo s ⟨q, a, b, c, v⟩ = (err (chg s ⟨q, a, b, c, v⟩).1, (chg s ⟨q, a, b, c, v⟩).2) := by
      rcases k6 with rfl | rfl | rfl | rfl | rfl | rfl <;> rfl
    rw [e]
    exact do_chg q a b c v hx k6 hnl h k hk
  · by_cases k11 : q = 11 ∨ q = 12
    · have e : gdo s ⟨q, a, b, c, v⟩ = (gidle a, s) := by rcases k11 with rfl | rfl <;> rfl
      rw [e, same]
      exact do_idle q a b c v k11 h
    · by_cases k4 : q = 4
      · subst k4
        rw [show gdo s ⟨4, a, b, c, v⟩ = (gread s a b, s) from rfl, same]
        exact Rph_read (fun o K N h hs hN => do_read a b c v h hs hN) h k hk
      · by_cases k10 : q = 10
        · subst k10
          rw [show gdo s ⟨10, a, b, c, v⟩ = (gshape s a, s) from rfl, same]
          exact Rph_read (fun o K N h hs hN => do_shape a b c v h hs hN) h k hk
        · by_cases k8 : q = 8
          · subst k8
            rw [show gdo s ⟨8, a, b, c, v⟩ = (gsame s a b, s) from rfl, same]
            exact Rph_read (fun o K N h hs hN => do_same a b c v h hs hN) h k hk
          · by_cases k9 : q = 9
            · subst k9
              rw [show gdo s ⟨9, a, b, c, v⟩ = (gnil s a, s) from rfl, same]
              exact Rph_read (fun o K N h hs hN => do_nil a b c v h hs hN) h k hk
            · simp only [not_or] at k6 k11
              have e : gdo s ⟨q, a, b, c, v⟩ = (err 1, s) := by
                unfold gdo
                simp [k4, k8, k9, k10, k6, k11]
              rw [e, same]
              exact do_else q a b c v (by simp [k4, k8, k9, k10, k6, k11]) h
end
end Go.Proofs.Ytoldhaomacnigaa.Rg
