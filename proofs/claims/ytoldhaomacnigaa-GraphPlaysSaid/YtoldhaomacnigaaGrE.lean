/- Contracts of package graph over parts of memory: Do. No condition. -/
import Derived.Test.YtoldhaomacnigaaGrD
set_option linter.unusedVariables false
set_option linter.unusedSimpArgs false
namespace Go.Proofs.Ytoldhaomacnigaa.Gr
open Go.RowKit Go.Proofs.Ytoldhaomacnigaa.W
section
variable {W w : World} {oo : Nat → Prop} {g : Nat} {s s' : GS} {l : List Pr} {F : FuncId} {args : Array Value} {Q : Ending → Prop}
theorem Gph_lift (hc : ∀ (o : Nat → Prop) (H : Nat) (N : NL), SepO w o w (gparts g H s.largest s.hs N) → s.ok → N.map (·.1) = s.nodes → Calls Try.prog F args w fun e w' => Q e ∧ GOut w o g H s' w') (hs' : s.ok → s'.ok)
    (h : SepO W oo w l) (k : Nat) (hk : l[k]? = some (Gph g s)) : Calls Try.prog F args w fun e w' => Q e ∧ SepO W oo w' (l.set k (Gph g s')) := by
  obtain ⟨o, ⟨⟨H, N⟩, ⟨hok, hn⟩, hsep⟩, _, hup⟩ := h.open_ k hk
  refine (hc o H N (SepO.enter hsep) hok hn).mono ?_
  rintro e w' ⟨hq, N', h', hn'⟩
  exact ⟨hq, hup w' (Gph g s') ⟨(H, N'), ⟨hs' hok, hn'⟩, h'.leave⟩ h'.keep0⟩
theorem Gph_read (hc : ∀ (o : Nat → Prop) (H : Nat) (N : NL), SepO w o w (gparts g H s.largest s.hs N) → s.ok → N.map (·.1) = s.nodes → Calls Try.prog F args w fun e w' => Q e ∧ Keep (fun _ => False) w w')
    (h : SepO W oo w l) (k : Nat) (hk : l[k]? = some (Gph g s)) : Calls Try.prog F args w fun e w' => Q e ∧ SepO W oo w' l := by
  obtain ⟨o, ⟨⟨H, N⟩, ⟨hok, hn⟩, hsep⟩, _, hup⟩ := h.open_ k hk
  refine (hc o H N (SepO.enter hsep) hok hn).mono ?_
  rintro e w' ⟨hq, h'⟩
  exact ⟨hq, h.stay h'⟩
theorem Gph_ok (h : SepO W oo w l) (k : Nat) (hk : l[k]? = some (Gph g s)) : s.ok := by
  obtain ⟨o, ⟨⟨H, N⟩, ⟨hok, hn⟩, hsep⟩, _⟩ := h.get k hk
  exact hok
end
section
variable {W w : World} {oo : Nat → Prop} {g : Nat} {s : GS} {l : List Pr}
theorem has_sep (x : Int) (h : SepO W oo w l) (k : Nat) (hk : l[k]? = some (Gph g s)) : Calls Try.prog 23 #[pt g, .int .i64 x] w fun e w' => e = .returned (.bool (has s x)) ∧ SepO W oo w' l :=
  Gph_read (fun o H N h hs hN => (has_in x h hs).mono fun e w' ⟨he, hw⟩ => ⟨he, hw ▸ Keep.refl _ _⟩) h k hk
theorem make_sep (x b c : Int) (h : SepO W oo w l) (k : Nat) (hk : l[k]? = some (Gph g s)) : Calls Try.prog 19 #[pt g, .int .i64 x, .int .i64 b, .int .i64 c] w fun e w' => e = .returned (.int .i64 (gmake s x b c).1) ∧ SepO W oo w' (l.set k (Gph g (gmake s x b c).2)) :=
  Gph_lift (fun o H N h hs hN => make_in x b c h hs hN) (fun hs => gmake_ok hs x b c) h k hk
theorem get_sep (x b c : Int) (h : SepO W oo w l) (k : Nat) (hk : l[k]? = some (Gph g s)) : Calls Try.prog 20 #[pt g, .int .i64 x, .int .i64 b, .int .i64 c] w fun e w' => e = .returned (.int .i64 (gget s x b c).1) ∧ SepO W oo w' (l.set k (Gph g (gget s x b c).2)) :=
  Gph_lift (fun o H N h hs hN => get_in x b c h hs hN) (fun hs => gget_ok hs x b c) h k hk
theorem set_sep (x b c : Int) (h : SepO W oo w l) (k : Nat) (hk : l[k]? = some (Gph g s)) : Calls Try.prog 21 #[pt g, .int .i64 x, .int .i64 b, .int .i64 c] w fun e w' => e = .returned (.int .i64 (gset s x b c).1) ∧ SepO W oo w' (l.set k (Gph g (gset s x b c).2)) :=
  Gph_lift (fun o H N h hs hN => set_in x b c h hs hN) (fun hs => gset_ok hs x b c) h k hk
theorem gcopy_ok (hs : s.ok) (a b : Int) : (gcopy s a b).2.ok := by
  unfold gcopy; split
  · exact set_hs hs _ (held_le hs _)
  · exact hs
theorem gclear_ok (hs : s.ok) (a : Int) : (gclear s a).2.ok := by
  unfold gclear; split
  · exact set_hs hs _ (Nat.zero_le _)
  · exact hs
theorem copy_sep (x b : Int) (h : SepO W oo w l) (k : Nat) (hk : l[k]? = some (Gph g s)) : Calls Try.prog 24 #[pt g, .int .i64 x, .int .i64 b] w fun e w' => e = .returned (.int .i64 (gcopy s x b).1) ∧ SepO W oo w' (l.set k (Gph g (gcopy s x b).2)) :=
  Gph_lift (fun o H N h hs hN => copy_in x b h hs hN) (fun hs => gcopy_ok hs x b) h k hk
theorem asks_sep (x : A5) (h : SepO W oo w l) (k : Nat) (hk : l[k]? = some (Gph g s)) : Calls Try.prog 25 #[pt g, stp x] w fun e w' => e = .returned (.agg (gasks s x).cells) ∧ SepO W oo w' l :=
  Gph_read (fun o H N h hs hN => asks_in x h hs hN) h k hk

/-- The step and the answer, in blocks of their own, behind the other parts. -/
abbrev stc (x : A5) : Array Value := #[.int .i64 x.kind, .int .i64 x.a, .int .i64 x.b, .int .i64 x.c, .int .u64 x.v]
abbrev two (B : Nat) (x : A5) (a : GA) : List Pr := [blkP B 33 (stc x), blkP (B + 1) 30 a.cells]
theorem two_new (h : SepO W oo w l) (x : A5) : SepO W oo ((w.alloc (.cells (stc x) 33)).alloc (.cells #[.int .i64 0, .bool false, .int .i64 0, .int .u64 0] 30)) (l ++ two w.heap.size x (err 0)) := by
  have := (h.new_blk 33 (stc x)).new_blk 30 (err 0).cells
  simpa [two, err, GA.cells] using this
theorem two_cells {B : Nat} {x : A5} {a : GA} (h : SepO W oo w (l ++ two B x a)) :
    (w.cell? ⟨B, 0, none⟩ = some (.int .i64 x.kind) ∧ w.cell? ⟨B, 1, none⟩ = some (.int .i64 x.a) ∧ w.cell? ⟨B, 2, none⟩ = some (.int .i64 x.b) ∧ w.cell? ⟨B, 3, none⟩ = some (.int .i64 x.c) ∧ w.cell? ⟨B, 4, none⟩ = some (.int .u64 x.v)) ∧
    (w.cell? ⟨B + 1, 0, none⟩ = some (.int .i64 a.e) ∧ w.cell? ⟨B + 1, 1, none⟩ = some (.bool a.yes) ∧ w.cell? ⟨B + 1, 2, none⟩ = some (.int .i64 a.n) ∧ w.cell? ⟨B + 1, 3, none⟩ = some (.int .u64 a.v)) ∧ ∀ i, w.frozen? ⟨B + 1, i, none⟩ = false := by
  have h1 := h.blk l.length (g := B) (t := 33) (cs := stc x) (by simp [two])
  have h2 := h.blk (l.length + 1) (g := B + 1) (t := 30) (cs := a.cells) (by simp [two])
  exact ⟨⟨h1.cell 0, h1.cell 1, h1.cell 2, h1.cell 3, h1.cell 4⟩, ⟨h2.cell 0, h2.cell 1, h2.cell 2, h2.cell 3⟩, fun i => h2.frozen i⟩
theorem two_put {B : Nat} {x : A5} {a : GA} (h : SepO W oo w (l ++ two B x a)) (c : GA) :
    SepO W oo ((((w.setCell ⟨B + 1, 0, none⟩ (.int .i64 c.e)).setCell ⟨B + 1, 1, none⟩ (.bool c.yes)).setCell ⟨B + 1, 2, none⟩ (.int .i64 c.n)).setCell ⟨B + 1, 3, none⟩ (.int .u64 c.v)) (l ++ two B x c) := by
  have h0 := h.set_blk (l.length + 1) (g := B + 1) (t := 30) (cs := a.cells) (by simp [two]) 0 (.int .i64 c.e)
  have e : ∀ cs : Array Value, (l ++ [blkP B 33 (stc x), blkP (B + 1) 30 cs])[l.length + 1]? = some (blkP (B + 1) 30 cs) := by intro cs; simp
  have e2 : ∀ cs cs' : Array Value, (l ++ [blkP B 33 (stc x), blkP (B + 1) 30 cs]).set (l.length + 1) (blkP (B + 1) 30 cs') = l ++ [blkP B 33 (stc x), blkP (B + 1) 30 cs'] := by
    intro cs cs'
    rw [List.set_append_right _ _ (by omega)]
    simp
  have e0 : l ++ two B x a = l ++ [blkP B 33 (stc x), blkP (B + 1) 30 a.cells] := rfl
  rw [e0, e2] at h0
  have h1 := h0.set_blk (l.length + 1) (e _) 1 (.bool c.yes)
  rw [e2] at h1
  have h2 := h1.set_blk (l.length + 1) (e _) 2 (.int .i64 c.n)
  rw [e2] at h2
  have h3 := h2.set_blk (l.length + 1) (e _) 3 (.int .u64 c.v)
  rw [e2] at h3
  exact h3
theorem Do_res (tmps : Array Value) (B : Nat) {x : A5} {a : GA} (h : SepO W oo w (l ++ two B x a)) (h4 : tmps[4]?.getD undef = .pointer (some ⟨B + 1, 0, none⟩)) :
    (results Try.f11 tmps).run Try.prog w = .ok (.agg a.cells) w := by
  obtain ⟨_, ⟨e0, e1, e2, e3⟩, _⟩ := two_cells h
  simp [results, Try.results11, go_sem, h4, e0, e1, e2, e3, GA.cells]
theorem set_self {k : Nat} {P : Pr} (h : l[k]? = some P) : l.set k P = l := by
  apply List.ext_getElem?
  intro i
  rw [List.getElem?_set]
  split
  · rename_i e
    subst e
    rw [h, if_pos (List.getElem?_eq_some_iff.1 h).1]
  · rfl
theorem two_swap {B : Nat} {x : A5} {a : GA} {k : Nat} {P : Pr} (hk : k < l.length) : (l ++ two B x a).set k P = l.set k P ++ two B x a := List.set_append_left _ _ hk

set_option maxHeartbeats 1000000 in
theorem Do_make (a b c v : Int) (h : SepO W oo w l) (k : Nat) (hk : l[k]? = some (Gph g s)) : Calls Try.prog 11 #[pt g, stp ⟨1, a, b, c, v⟩] w fun e w' => e = .returned (.agg (err (gmake s a b c).1).cells) ∧ SepO W oo w' (l.set k (Gph g (gmake s a b c).2)) := by
  obtain ⟨R, hR⟩ : ∃ R, (err (gmake s a b c).1).cells = R := ⟨_, rfl⟩
  rw [hR]
  have HR := Lib.hid hR
  clear hR
  have hkl : k < l.length := (List.getElem?_eq_some_iff.1 hk).1
  have HKL := Lib.hid hkl
  have h2 := two_new h ⟨1, a, b, c, v⟩
  have hk2 : ∀ B x a, (l ++ two B x a)[k]? = some (Gph g s) := fun B x a => at_left hk
  have HK2 := Lib.hid hk2
  have HK := Lib.hid hk
  have H0 := Lib.hid h
  have H2 := Lib.hid h2
  clear hkl hk2 h2 hk h

  go_enter Try.func11, Try.ntmps11
  go_wp2_with fail
  refine (make_sep a b c H2.out k (HK2.out _ _ _)).mono ?_
  rintro e w1 ⟨rfl, h1⟩
  rw [two_swap HKL.out] at h1
  obtain ⟨⟨x0, x1, x2, x3, x4⟩, ⟨a0, a1, a2, a3⟩, fz⟩ := two_cells h1
  have H9 := Lib.hid h1
  simp only [err] at a0 a1 a2 a3
  clear h1
  obtain ⟨E, hE⟩ : ∃ E, (gmake s a b c).1 = E := ⟨_, rfl⟩
  rw [hE]
  have HE := Lib.hid hE
  clear hE
  go_wp2_with fail
  have h5 := two_put H9.out (err E)
  exact bodyPost_ret (Do_res _ w.heap.size h5 rfl) rfl ⟨by rw [← HR.out, HE.out], h5.first⟩
set_option maxHeartbeats 1000000 in
theorem Do_get (a b c v : Int) (h : SepO W oo w l) (k : Nat) (hk : l[k]? = some (Gph g s)) : Calls Try.prog 11 #[pt g, stp ⟨2, a, b, c, v⟩] w fun e w' => e = .returned (.agg (err (gget s a b c).1).cells) ∧ SepO W oo w' (l.set k (Gph g (gget s a b c).2)) := by
  obtain ⟨R, hR⟩ : ∃ R, (err (gget s a b c).1).cells = R := ⟨_, rfl⟩
  rw [hR]
  have HR := Lib.hid hR
  clear hR
  have hkl : k < l.length := (List.getElem?_eq_some_iff.1 hk).1
  have HKL := Lib.hid hkl
  have h2 := two_new h ⟨2, a, b, c, v⟩
  have hk2 : ∀ B x a, (l ++ two B x a)[k]? = some (Gph g s) := fun B x a => at_left hk
  have HK2 := Lib.hid hk2
  have HK := Lib.hid hk
  have H0 := Lib.hid h
  have H2 := Lib.hid h2
  clear hkl hk2 h2 hk h

  go_enter Try.func11, Try.ntmps11
  go_wp2_with fail
  refine (get_sep a b c H2.out k (HK2.out _ _ _)).mono ?_
  rintro e w1 ⟨rfl, h1⟩
  rw [two_swap HKL.out] at h1
  obtain ⟨⟨x0, x1, x2, x3, x4⟩, ⟨a0, a1, a2, a3⟩, fz⟩ := two_cells h1
  have H9 := Lib.hid h1
  simp only [err] at a0 a1 a2 a3
  clear h1
  obtain ⟨E, hE⟩ : ∃ E, (gget s a b c).1 = E := ⟨_, rfl⟩
  rw [hE]
  have HE := Lib.hid hE
  clear hE
  go_wp2_with fail
  have h5 := two_put H9.out (err E)
  exact bodyPost_ret (Do_res _ w.heap.size h5 rfl) rfl ⟨by rw [← HR.out, HE.out], h5.first⟩
set_option maxHeartbeats 1000000 in
theorem Do_set (a b c v : Int) (h : SepO W oo w l) (k : Nat) (hk : l[k]? = some (Gph g s)) : Calls Try.prog 11 #[pt g, stp ⟨3, a, b, c, v⟩] w fun e w' => e = .returned (.agg (err (gset s a b c).1).cells) ∧ SepO W oo w' (l.set k (Gph g (gset s a b c).2)) := by
  obtain ⟨R, hR⟩ : ∃ R, (err (gset s a b c).1).cells = R := ⟨_, rfl⟩
  rw [hR]
  have HR := Lib.hid hR
  clear hR
  have hkl : k < l.length := (List.getElem?_eq_some_iff.1 hk).1
  have HKL := Lib.hid hkl
  have h2 := two_new h ⟨3, a, b, c, v⟩
  have hk2 : ∀ B x a, (l ++ two B x a)[k]? = some (Gph g s) := fun B x a => at_left hk
  have HK2 := Lib.hid hk2
  have HK := Lib.hid hk
  have H0 := Lib.hid h
  have H2 := Lib.hid h2
  clear hkl hk2 h2 hk h

  go_enter Try.func11, Try.ntmps11
  go_wp2_with fail
  refine (set_sep a b c H2.out k (HK2.out _ _ _)).mono ?_
  rintro e w1 ⟨rfl, h1⟩
  rw [two_swap HKL.out] at h1
  obtain ⟨⟨x0, x1, x2, x3, x4⟩, ⟨a0, a1, a2, a3⟩, fz⟩ := two_cells h1
  have H9 := Lib.hid h1
  simp only [err] at a0 a1 a2 a3
  clear h1
  obtain ⟨E, hE⟩ : ∃ E, (gset s a b c).1 = E := ⟨_, rfl⟩
  rw [hE]
  have HE := Lib.hid hE
  clear hE
  go_wp2_with fail
  have h5 := two_put H9.out (err E)
  exact bodyPost_ret (Do_res _ w.heap.size h5 rfl) rfl ⟨by rw [← HR.out, HE.out], h5.first⟩
set_option maxHeartbeats 1000000 in
theorem Do_copy (a b c v : Int) (h : SepO W oo w l) (k : Nat) (hk : l[k]? = some (Gph g s)) : Calls Try.prog 11 #[pt g, stp ⟨7, a, b, c, v⟩] w fun e w' => e = .returned (.agg (err (gcopy s a b).1).cells) ∧ SepO W oo w' (l.set k (Gph g (gcopy s a b).2)) := by
  obtain ⟨R, hR⟩ : ∃ R, (err (gcopy s a b).1).cells = R := ⟨_, rfl⟩
  rw [hR]
  have HR := Lib.hid hR
  clear hR
  have hkl : k < l.length := (List.getElem?_eq_some_iff.1 hk).1
  have HKL := Lib.hid hkl
  have h2 := two_new h ⟨7, a, b, c, v⟩
  have hk2 : ∀ B x a, (l ++ two B x a)[k]? = some (Gph g s) := fun B x a => at_left hk
  have HK2 := Lib.hid hk2
  have HK := Lib.hid hk
  have H0 := Lib.hid h
  have H2 := Lib.hid h2
  clear hkl hk2 h2 hk h

  go_enter Try.func11, Try.ntmps11
  go_wp2_with fail
  refine (copy_sep a b H2.out k (HK2.out _ _ _)).mono ?_
  rintro e w1 ⟨rfl, h1⟩
  rw [two_swap HKL.out] at h1
  obtain ⟨⟨x0, x1, x2, x3, x4⟩, ⟨a0, a1, a2, a3⟩, fz⟩ := two_cells h1
  have H9 := Lib.hid h1
  simp only [err] at a0 a1 a2 a3
  clear h1
  obtain ⟨E, hE⟩ : ∃ E, (gcopy s a b).1 = E := ⟨_, rfl⟩
  rw [hE]
  have HE := Lib.hid hE
  clear hE
  go_wp2_with fail
  have h5 := two_put H9.out (err E)
  exact bodyPost_ret (Do_res _ w.heap.size h5 rfl) rfl ⟨by rw [← HR.out, HE.out], h5.first⟩
set_option maxHeartbeats 1000000 in
theorem Do_write (a b c v : Int) (HV : Hid (0 ≤ v ∧ v ≤ 18446744073709551615)) (h : SepO W oo w l) (k : Nat) (hk : l[k]? = some (Gph g s)) : Calls Try.prog 11 #[pt g, stp ⟨5, a, b, c, v⟩] w fun e w' => e = .returned (.agg (err (gwrite s a b v).1).cells) ∧ SepO W oo w' (l.set k (Gph g (gwrite s a b v).2)) := by
  obtain ⟨R, hR⟩ : ∃ R, (err (gwrite s a b v).1).cells = R := ⟨_, rfl⟩
  rw [hR]
  have HR := Lib.hid hR
  clear hR
  have hkl : k < l.length := (List.getElem?_eq_some_iff.1 hk).1
  have HKL := Lib.hid hkl
  have h2 := two_new h ⟨5, a, b, c, v⟩
  have hk2 : ∀ B x a, (l ++ two B x a)[k]? = some (Gph g s) := fun B x a => at_left hk
  have HK2 := Lib.hid hk2
  have HK := Lib.hid hk
  have H0 := Lib.hid h
  have H2 := Lib.hid h2
  clear hkl hk2 h2 hk h

  obtain ⟨⟨C1, C2⟩, hC⟩ : ∃ C, gwrite s a b v = C := ⟨_, rfl⟩
  rw [hC] at HR ⊢
  simp only [] at HR ⊢
  have hC0 := hC
  unfold gwrite at hC
  have bad : ∀ E : Int, E ≠ 0 → E = (if wrong s a = 0 then 5 else wrong s a) → (wrong s a ≠ 0 ∨ inL b (nod s (held s a)).scal.length = false) → C1 = E → C2 = s → Calls Try.prog 11 #[pt g, stp ⟨5, a, b, c, v⟩] w fun e w' => e = .returned (.agg R) ∧ SepO W oo w' (l.set k (Gph g C2)) := by
    rintro E h0 hE hb rfl rfl
    have HS := Lib.hid (set_self HK.out)
    have hsc := fun (X : World) (hX : SepO W oo X (l ++ two w.heap.size ⟨5, a, b, c, v⟩ (err 0))) => Gph_read (fun o H N h hs hN => (scalar_bad a b C1 hE hb h hs hN).mono fun e w' ⟨he, hw⟩ => ⟨he, hw ▸ Keep.refl _ _⟩) hX k (HK2.out _ _ _)
    have HC := Lib.hid hsc
    have eb : (C1 == 0) = false := by simpa using h0
    clear h0 hE hC hC0 hb hsc
    go_enter Try.func11, Try.ntmps11
    go_wp2_with fail
    refine (HC.out _ H2.out).mono ?_
    rintro e w1 ⟨rfl, h1⟩
    obtain ⟨⟨x0, x1, x2, x3, x4⟩, ⟨a0, a1, a2, a3⟩, fz⟩ := two_cells h1
    have H9 := Lib.hid h1
    simp only [err] at a0 a1 a2 a3
    clear h1
    go_wp2_with fail
    have h5 := two_put H9.out (err C1)
    exact bodyPost_ret (Do_res _ w.heap.size h5 rfl) rfl ⟨by rw [← HR.out], by rw [HS.out]; exact h5.first⟩
  rcases wrong_cases s a with ⟨e1, e2⟩ | ⟨e1, e2, e3⟩ | ⟨e1, e2, e3⟩
  · rw [e2] at hC; cases hC
    exact bad 3 (by decide) (by rw [e2]; rfl) (.inl (by rw [e2]; decide)) rfl rfl
  · rw [e3] at hC; cases hC
    exact bad 4 (by decide) (by rw [e3]; rfl) (.inl (by rw [e3]; decide)) rfl rfl
  · cases ei : inL b (nod s (held s a)).scal.length
    · rw [e3, ei] at hC; cases hC
      exact bad 5 (by decide) (by rw [e3]; rfl) (.inr ei) rfl rfl
    · clear bad
      rw [e3, ei] at hC
      simp at hC
      obtain ⟨rfl, hC2⟩ := hC
      have hsc : ∀ (X : World) (hX : SepO W oo X (l ++ two w.heap.size ⟨5, a, b, c, v⟩ (err 0))), Calls Try.prog 22 #[pt g, .int .i64 a, .int .i64 b] X fun e X' => ∃ S u, e = .returned (.tuple #[.pointer (some ⟨S, b.toNat, none⟩), .int .i64 0]) ∧ X = X' ∧ X.cell? ⟨S, b.toNat, none⟩ = some (.int .u64 u) ∧ X.frozen? ⟨S, b.toNat, none⟩ = false ∧ SepO W oo (X.setCell ⟨S, b.toNat, none⟩ (.int .u64 v)) (l.set k (Gph g C2) ++ two w.heap.size ⟨5, a, b, c, v⟩ (err 0)) := by
        intro X hX
        obtain ⟨o, ⟨⟨H, N⟩, ⟨hok, hn⟩, hsep⟩, _, hup⟩ := hX.open_ k (HK2.out _ _ _)
        have hin := SepO.enter hsep
        obtain ⟨p, hp, hp1, hpv⟩ := node_at hok hn e2 (held_le hok a)
        have ei' := ei
        rw [← hp1] at ei'
        obtain ⟨b0, b1⟩ := (inL_iff _ _).1 ei'
        refine (scalar_ok a b e3 hp ei' hin hok hn).mono ?_
        rintro e X' ⟨rfl, rfl⟩
        have hset := g_set_s hin hp b.toNat v
        refine ⟨p.2.s, _, rfl, rfl, by rw [(g_scal hin hp).cell, wds_get (by omega)], (g_scal hin hp).frozen _, ?_⟩
        have hk3 : C2.ok := by
          have := gwrite_ok hok a b v ?hv
          · rw [hC0] at this; exact this
          case hv => exact HV.out
        have h3 := hup _ (Gph g C2) ⟨(H, N.set (held s a - 1) (⟨p.1.refs, p.1.scal.set b.toNat v⟩, p.2)), ⟨hk3, by rw [← hC2]; show List.map _ (List.set _ _ _) = setN s _ _; rw [List.map_set, hn, ← hp1]; rfl⟩, by rw [← hC2]; exact hset.leave⟩ hset.keep0
        rw [two_swap HKL.out] at h3
        exact h3
      have HC := Lib.hid hsc
      clear e1 e2 e3 ei hC0 hC2 hsc
      go_enter Try.func11, Try.ntmps11
      go_wp2_with fail
      refine (HC.out _ H2.out).mono ?_
      rintro e w1 ⟨S, u, rfl, rfl, cu, fu, h3⟩
      obtain ⟨⟨x0, x1, x2, x3, x4⟩, ⟨a0, a1, a2, a3⟩, fz⟩ := two_cells h3
      have H3 := Lib.hid h3
      simp only [err] at a0 a1 a2 a3
      obtain ⟨⟨y0, y1, y2, y3, y4⟩, -, -⟩ := two_cells H2.out
      clear h3
      go_wp2_with fail
      have h5 := two_put H3.out (err 0)
      exact bodyPost_ret (Do_res _ w.heap.size h5 rfl) rfl ⟨by rw [← HR.out], h5.first⟩
set_option maxHeartbeats 1000000 in
theorem Do_asks (q a b c v : Int) (hq : (q == 1) = false ∧ (q == 2) = false ∧ (q == 3) = false ∧ (q == 5) = false ∧ (q == 6) = false ∧ (q == 7) = false ∧ (q == 11) = false ∧ (q == 12) = false) (h : SepO W oo w l) (k : Nat) (hk : l[k]? = some (Gph g s)) : Calls Try.prog 11 #[pt g, stp ⟨q, a, b, c, v⟩] w fun e w' => e = .returned (.agg (gasks s ⟨q, a, b, c, v⟩).cells) ∧ SepO W oo w' l := by
  obtain ⟨⟨E, Y, M, V⟩, hR⟩ : ∃ R, gasks s ⟨q, a, b, c, v⟩ = R := ⟨_, rfl⟩
  rw [hR]
  have HR := Lib.hid hR
  clear hR
  have h2 := two_new h ⟨q, a, b, c, v⟩
  have hk2 : ∀ B x a, (l ++ two B x a)[k]? = some (Gph g s) := fun B x a => at_left hk
  have HK2 := Lib.hid hk2
  have H2 := Lib.hid h2
  obtain ⟨q1, q2, q3, q5, q6, q7, q11, q12⟩ := hq
  clear hk2 h2 hk h
  go_enter Try.func11, Try.ntmps11
  go_wp2_with fail
  refine (asks_sep ⟨q, a, b, c, v⟩ H2.out k (HK2.out _ _ _)).mono ?_
  rintro e w1 ⟨rfl, h1⟩
  rw [HR.out]
  simp only [GA.cells]
  obtain ⟨⟨x0, x1, x2, x3, x4⟩, ⟨a0, a1, a2, a3⟩, fz⟩ := two_cells h1
  have H9 := Lib.hid h1
  simp only [err] at a0 a1 a2 a3
  clear h1
  go_wp2_with fail
  have h5 := two_put H9.out ⟨E, Y, M, V⟩
  exact bodyPost_ret (Do_res _ w.heap.size h5 rfl) rfl ⟨rfl, h5.first⟩
theorem Do_idle (q a b c v : Int) (hq : q = 11 ∨ q = 12) (h : SepO W oo w l) (k : Nat) (hk : l[k]? = some (Gph g s)) : Calls Try.prog 11 #[pt g, stp ⟨q, a, b, c, v⟩] w fun e w' => e = .returned (.agg (gidle a).cells) ∧ SepO W oo w' l := by
  obtain ⟨R, hR⟩ : ∃ R, (gidle a).cells = R := ⟨_, rfl⟩
  rw [hR]
  unfold gidle at hR
  have H0 := Lib.hid h
  clear h hk
  by_cases z0 : a = 0
  · rw [if_pos (.inl z0)] at hR
    subst z0
    have HR := Lib.hid hR
    clear hR
    rcases hq with rfl | rfl
    · go_enter Try.func11, Try.ntmps11
      go_wp2_with fail
      refine bodyPost_ret (v := .agg #[.int .i64 0, .bool false, .int .i64 0, .int .u64 0]) (by simp [results, Try.results11, go_sem]) rfl ⟨?_, ?_⟩
      · rw [← HR.out]; rfl
      · first | exact (H0.out.alloc _).alloc _ | exact ((H0.out.alloc _).alloc _).drewN _
    · go_enter Try.func11, Try.ntmps11
      go_wp2_with fail
      refine bodyPost_ret (v := .agg #[.int .i64 0, .bool false, .int .i64 0, .int .u64 0]) (by simp [results, Try.results11, go_sem]) rfl ⟨?_, ?_⟩
      · rw [← HR.out]; rfl
      · first | exact (H0.out.alloc _).alloc _ | exact ((H0.out.alloc _).alloc _).drewN _
  · by_cases z1 : a = 1
    · rw [if_pos (.inr z1)] at hR
      subst z1
      have HR := Lib.hid hR
      clear hR
      rcases hq with rfl | rfl
      · go_enter Try.func11, Try.ntmps11
        go_wp2_with fail
        refine bodyPost_ret (v := .agg #[.int .i64 0, .bool false, .int .i64 0, .int .u64 0]) (by simp [results, Try.results11, go_sem]) rfl ⟨?_, ?_⟩
        · rw [← HR.out]; rfl
        · first | exact (H0.out.alloc _).alloc _ | exact ((H0.out.alloc _).alloc _).drewN _
      · go_enter Try.func11, Try.ntmps11
        go_wp2_with fail
        refine bodyPost_ret (v := .agg #[.int .i64 0, .bool false, .int .i64 0, .int .u64 0]) (by simp [results, Try.results11, go_sem]) rfl ⟨?_, ?_⟩
        · rw [← HR.out]; rfl
        · first | exact (H0.out.alloc _).alloc _ | exact ((H0.out.alloc _).alloc _).drewN _
    · rw [if_neg (fun h => h.elim z0 z1)] at hR
      have b0 : (a == 0) = false := by simpa using z0
      have b1 : (a == 1) = false := by simpa using z1
      clear z0 z1
      have HR := Lib.hid hR
      clear hR
      rcases hq with rfl | rfl
      · go_enter Try.func11, Try.ntmps11
        go_wp2_with fail
        refine bodyPost_ret (v := .agg #[.int .i64 1, .bool false, .int .i64 0, .int .u64 0]) (by simp [results, Try.results11, go_sem]) rfl ⟨?_, ?_⟩
        · rw [← HR.out]; rfl
        · first | exact (H0.out.alloc _).alloc _ | exact ((H0.out.alloc _).alloc _).drewN _
      · go_enter Try.func11, Try.ntmps11
        go_wp2_with fail
        refine bodyPost_ret (v := .agg #[.int .i64 1, .bool false, .int .i64 0, .int .u64 0]) (by simp [results, Try.results11, go_sem]) rfl ⟨?_, ?_⟩
        · rw [← HR.out]; rfl
        · first | exact (H0.out.alloc _).alloc _ | exact ((H0.out.alloc _).alloc _).drewN _
set_option maxHeartbeats 1000000 in
theorem Do_clear (a b c v : Int) (h : SepO W oo w l) (k : Nat) (hk : l[k]? = some (Gph g s)) : Calls Try.prog 11 #[pt g, stp ⟨6, a, b, c, v⟩] w fun e w' => e = .returned (.agg (err (gclear s a).1).cells) ∧ SepO W oo w' (l.set k (Gph g (gclear s a).2)) := by
  obtain ⟨R, hR⟩ : ∃ R, (err (gclear s a).1).cells = R := ⟨_, rfl⟩
  rw [hR]
  have HR := Lib.hid hR
  clear hR
  have hkl : k < l.length := (List.getElem?_eq_some_iff.1 hk).1
  have HKL := Lib.hid hkl
  have h2 := two_new h ⟨6, a, b, c, v⟩
  have hk2 : ∀ B x a, (l ++ two B x a)[k]? = some (Gph g s) := fun B x a => at_left hk
  have HK2 := Lib.hid hk2
  have HK := Lib.hid hk
  have H0 := Lib.hid h
  have H2 := Lib.hid h2
  clear hkl hk2 h2 hk h

  obtain ⟨⟨C1, C2⟩, hC⟩ : ∃ C, gclear s a = C := ⟨_, rfl⟩
  rw [hC] at HR ⊢
  simp only [] at HR ⊢
  unfold gclear at hC
  cases ea : has s a
  · rw [ea] at hC
    simp at hC
    obtain ⟨rfl, rfl⟩ := hC
    have HS := Lib.hid (set_self HK.out)
    have EA := Lib.hid ea
    clear ea
    go_enter Try.func11, Try.ntmps11
    go_wp2_with fail
    refine (has_sep a H2.out k (HK2.out _ _ _)).mono ?_
    rintro e w1 ⟨rfl, h1⟩
    rw [EA.out]
    obtain ⟨⟨x0, x1, x2, x3, x4⟩, ⟨a0, a1, a2, a3⟩, fz⟩ := two_cells h1
    have H9 := Lib.hid h1
    simp only [err] at a0 a1 a2 a3
    clear h1
    go_wp2_with fail
    have h5 := two_put H9.out (err 3)
    exact bodyPost_ret (Do_res _ w.heap.size h5 rfl) rfl ⟨by rw [← HR.out], by rw [HS.out]; exact h5.first⟩
  · rw [ea] at hC
    simp at hC
    obtain ⟨rfl, hC2⟩ := hC
    have HC2 := Lib.hid hC2
    have EA := Lib.hid ea
    clear ea hC2
    go_enter Try.func11, Try.ntmps11
    go_wp2_with fail
    refine (has_sep a H2.out k (HK2.out _ _ _)).mono ?_
    rintro e w1 ⟨rfl, h1⟩
    rw [EA.out]
    obtain ⟨o, ⟨⟨H, N⟩, ⟨hok, hn⟩, hsep⟩, _, hup⟩ := h1.open_ k (HK2.out _ _ _)
    have hin := SepO.enter hsep
    have c0 := (g_blk hin).cell 0
    simp at c0
    have ch := cell_h hin EA.out
    have fh := (g_hs hin).frozen a.toNat
    obtain ⟨z0, z1⟩ := (has_iff s a).1 EA.out
    have hl := hok.hlen
    obtain ⟨q, hq⟩ := pv_ptr N (held s a)
    rw [hq] at ch
    have hset := g_set_h hin a.toNat 0
    have h3 := hup _ (Gph g C2) ⟨(H, N), ⟨by rw [← HC2.out]; exact set_hs hok _ (Nat.zero_le _), by rw [← HC2.out]; exact hn⟩, by rw [← HC2.out]; exact hset.leave⟩ hset.keep0
    rw [two_swap HKL.out] at h3
    replace h3 : SepO W oo (w1.setCell ⟨H, a.toNat, none⟩ (.pointer none)) (l.set k (Gph g C2) ++ two w.heap.size ⟨6, a, b, c, v⟩ (err 0)) := h3
    obtain ⟨⟨x0, x1, x2, x3, x4⟩, -, fz⟩ := two_cells h1
    obtain ⟨-, ⟨a0, a1, a2, a3⟩, fz3⟩ := two_cells h3
    obtain ⟨-, ⟨a0', a1', a2', a3'⟩, -⟩ := two_cells h1
    simp only [err] at a0 a1 a2 a3 a0' a1' a2' a3'
    have H3 := Lib.hid h3
    clear h1 hq hset hup hsep hin hok hn h3
    go_wp2_with fail
    go_region
    go_wp2_with fail
    have h5 := (two_put H3.out (err 0)).drew
    first
      | exact bodyPost_ret (Do_res _ w.heap.size h5 rfl) rfl ⟨by rw [← HR.out], h5.first⟩
      | skip
/-- What a step comes to. -/
theorem Do_sep (x : A5) (hx : x.wf) (h : SepO W oo w l) (k : Nat) (hk : l[k]? = some (Gph g s)) : Calls Try.prog 11 #[pt g, stp x] w fun e w' => e = .returned (.agg (gdo s x).1.cells) ∧ SepO W oo w' (l.set k (Gph g (gdo s x).2)) := by
  obtain ⟨q, a, b, c, v⟩ := x
  have same : l.set k (Gph g s) = l := set_self hk
  unfold gdo
  simp only []
  by_cases k1 : q = 1
  · subst k1; exact Do_make a b c v h k hk
  by_cases k2 : q = 2
  · subst k2; exact Do_get a b c v h k hk
  by_cases k3 : q = 3
  · subst k3; exact Do_set a b c v h k hk
  by_cases k5 : q = 5
  · subst k5; exact Do_write a b c v (Lib.hid hx.2.2.2.2) h k hk
  by_cases k6 : q = 6
  · subst k6; exact Do_clear a b c v h k hk
  by_cases k7 : q = 7
  · subst k7; exact Do_copy a b c v h k hk
  by_cases k11 : q = 11 ∨ q = 12
  · have e : gdo s ⟨q, a, b, c, v⟩ = (gidle a, s) := by rcases k11 with rfl | rfl <;> rfl
    have := Do_idle q a b c v k11 h k hk
    unfold gdo at e
    rw [e, same]
    exact this
  · have e : gdo s ⟨q, a, b, c, v⟩ = (gasks s ⟨q, a, b, c, v⟩, s) := by
      unfold gdo gasks
      simp only [k1, k2, k3, k5, k6, k7, k11, if_false]
      (repeat' split) <;> rfl
    have k11' : q ≠ 11 := fun h => k11 (.inl h)
    have k12 : q ≠ 12 := fun h => k11 (.inr h)
    have := Do_asks q a b c v (by simp [k1, k2, k3, k5, k6, k7, k11', k12]) h k hk
    unfold gdo at e
    rw [e, same]
    exact this
end
end Go.Proofs.Ytoldhaomacnigaa.Gr
