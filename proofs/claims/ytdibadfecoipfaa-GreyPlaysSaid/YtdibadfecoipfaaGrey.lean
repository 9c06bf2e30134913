/- Contracts of package grey over a predicate on memory. No condition. -/
import Derived.Test.YtdibadfecoipfaaProg
import Derived.Test.YtdibadfecoipfaaQueue
import Derived.Test.YtdibadfecoipfaaClone
import Derived.Outline
set_option linter.unusedVariables false
set_option linter.unusedSimpArgs false
namespace Go.Proofs.Ytdibadfecoipfaa.Gy
open Go.RowKit Go.Proofs.Ytdibadfecoipfaa.W Go.Proofs.Ytdibadfecoipfaa.Sm

/-- A stack with room for so many: block b is a Stack that holds L. -/
def GRep (w : World) (ok : Nat → Prop) (b : Nat) (most : Int) (L : List Int) (lost : Bool) : Prop :=
  ∃ (A : Option Addr) (c : Nat), ok b ∧ 0 ≤ most ∧ most ≤ 1048576 ∧ (L.length : Int) ≤ most ∧ Blk w b 50 #[.int .i64 most, .slice A L.length c, .bool lost] ∧ QR w ok 3 A L.length c (L.map (Value.int .i64))

section
variable {w w' : World} {ok ok' : Nat → Prop} {b : Nat} {most : Int} {L : List Int} {lost : Bool}
theorem GRep.keep (h : GRep w ok b most L lost) (hk : Keep ok' w w') (hn : ∀ i, ok i → ok' i → False) : GRep w' ok b most L lost := by
  obtain ⟨A, c, ob, h0, h1, h2, hb, hq⟩ := h
  exact ⟨A, c, ob, h0, h1, h2, hk.blk hb (fun x => hn _ ob x), hq.keep hk hn⟩
theorem GRep.mono (h : GRep w ok b most L lost) (hs : ∀ i, ok i → ok' i) : GRep w ok' b most L lost := by
  obtain ⟨A, c, ob, h0, h1, h2, hb, hq⟩ := h
  exact ⟨A, c, hs _ ob, h0, h1, h2, hb, hq.mono hs⟩
theorem GRep.drewN (h : GRep w ok b most L lost) (n : Nat) : GRep (w.drewN n) ok b most L lost := h
theorem GRep.bound (h : GRep w ok b most L lost) : GRep w (fun i => ok i ∧ i < w.heap.size) b most L lost := by
  obtain ⟨A, c, ob, h0, h1, h2, hb, hq⟩ := h
  exact ⟨A, c, ⟨ob, hb.lt⟩, h0, h1, h2, hb, hq.bound⟩
end

def clampN (n : Int) : Int := if n < 0 then 0 else if 1048576 < n then 1048576 else n
theorem clampN_id {n : Int} (h0 : 0 ≤ n) (h1 : n ≤ 1048576) : clampN n = n := by unfold clampN; rw [if_neg (by omega), if_neg (by omega)]
theorem New_calls (n : Int) (w : World) :
    Calls Try.prog 19 #[.int .i64 n] w fun e w' => ∃ b, e = .returned (.pointer (some ⟨b, 0, none⟩)) ∧ GRep w' (fun i => w.heap.size ≤ i) b (clampN n) [] false ∧ Keep (fun _ => False) w w' := by
  obtain ⟨m, hm⟩ : ∃ m, (if 1048576 < n then 1048576 else n) = m := ⟨_, rfl⟩
  obtain ⟨c, hc⟩ : ∃ c, (if 0 < m then m else 0) = c := ⟨_, rfl⟩
  have c0 : 0 ≤ c := by rw [← hc]; split <;> omega
  have c1 : c ≤ 1048576 := by rw [← hc, ← hm]; (repeat' split) <;> omega
  have e : clampN n = c := by unfold clampN; rw [← hc, ← hm]; (repeat' split) <;> omega
  rw [e]
  clear e
  go_enter Try.func19, Try.ntmps19
  go_wp2
  go_ret
  exact ⟨_, rfl, ⟨none, 0, by simp, c0, c1, by simpa using c0, Blk.new w _ _, QR.nil _ _ _⟩, (Keep.refl _ _).alloc _⟩

theorem Len_calls {ok : Nat → Prop} {b : Nat} {most : Int} {L : List Int} {lost : Bool} (w : World) (hr : GRep w ok b most L lost) :
    Calls Try.prog 25 #[.pointer (some ⟨b, 0, none⟩)] w fun e w' => e = .returned (.int .i64 L.length) ∧ w = w' := by
  obtain ⟨A, c, ob, h0, h1, h2, hb, hq⟩ := hr
  have e1 := hb.cell 1
  simp at e1
  go_enter Try.func25, Try.ntmps25
  go_wp2
  go_ret
  exact ⟨rfl, rfl⟩

theorem Lost_calls {ok : Nat → Prop} {b : Nat} {most : Int} {L : List Int} {lost : Bool} (w : World) (hr : GRep w ok b most L lost) :
    Calls Try.prog 24 #[.pointer (some ⟨b, 0, none⟩)] w fun e w' => e = .returned (.bool lost) ∧ ∃ n, w' = w.drewN n := by
  obtain ⟨A, c, ob, h0, h1, h2, hb, hq⟩ := hr
  have e2 := hb.cell 2
  simp at e2
  go_enter Try.func24, Try.ntmps24
  go_wp2
  (try (go_quiet (fail)))
  (try go_wp2)
  go_ret
  first | exact ⟨rfl, 0, rfl⟩ | exact ⟨rfl, _, rfl⟩

theorem Found_calls {ok : Nat → Prop} {b : Nat} {most : Int} {L : List Int} {lost : Bool} (w : World) (hr : GRep w ok b most L lost) :
    Calls Try.prog 22 #[.pointer (some ⟨b, 0, none⟩)] w fun e w' => e = .returned (.tuple #[]) ∧ GRep w' ok b most L false ∧ Keep ok w w' := by
  obtain ⟨A, c, ob, h0, h1, h2, hb, hq⟩ := hr
  have e2 := hb.cell 2
  simp at e2
  have z2 := hb.frozen 2
  have hR : GRep (w.setCell ⟨b, 2, none⟩ (.bool false)) ok b most L false :=
    ⟨A, c, ob, h0, h1, h2, by simpa using hb.set_ 2 (.bool false), ((hq.ne_ hb (by decide)).far (p := ⟨b, 2, none⟩) (fun h => h.2 rfl) (.bool false)).mono (fun i h => h.1)⟩
  have hK : Keep ok w (w.setCell ⟨b, 2, none⟩ (.bool false)) := (Keep.refl ok w).set_ (.inl ob) _
  clear hb hq
  go_enter Try.func22, Try.ntmps22
  go_wp2
  first | go_end0 | exact (bodyPost_end rfl rfl ?_) | skip
  exact ⟨rfl, hR, hK⟩

def putL (L : List Int) (most x : Int) : List Int := if (L.length : Int) < most then L ++ [x] else L
theorem putL_ok {L : List Int} {most : Int} (x : Int) (h : (L.length : Int) < most) : putL L most x = L ++ [x] := if_pos h
theorem putL_no {L : List Int} {most : Int} (x : Int) (h : ¬ (L.length : Int) < most) : putL L most x = L := if_neg h

theorem Push_calls {ok : Nat → Prop} {b : Nat} {most : Int} {L : List Int} {lost : Bool} (x : Int) (w : World) (hr : GRep w ok b most L lost) :
    Calls Try.prog 20 #[.pointer (some ⟨b, 0, none⟩), .int .i64 x] w fun e w' =>
      e = .returned (.bool (decide ((L.length : Int) < most))) ∧ GRep w' (fun k => ok k ∨ w.heap.size ≤ k) b most (putL L most x) (lost || decide (most ≤ (L.length : Int))) ∧ Keep ok w w' := by
  have hr' := hr
  obtain ⟨A, c, ob, h0, h1, h2, hb, hq⟩ := hr
  have e0 := hb.cell 0
  have e1 := hb.cell 1
  have e2 := hb.cell 2
  simp at e0 e1 e2
  have z2 := hb.frozen 2
  unfold putL
  by_cases hlt : (L.length : Int) < most
  · have hd : decide ((L.length : Int) < most) = true := by simpa using hlt
    have hd2 : decide (most ≤ (L.length : Int)) = false := by simp; omega
    rw [hd, if_pos hlt, hd2, Bool.or_false]
    clear hd
    obtain ⟨i, hi, hz, hs, hby⟩ := info_parts info_int
    have hqn := hq.ne_ hb (by decide)
    go_enter Try.func20, Try.ntmps20
    go_wp2
    go_quiet (fail)
    have hbq : Blk ((w.drewN nq).alloc (.cells #[.int .i64 x] 3)) b 50 #[.int .i64 most, .slice A L.length c, .bool lost] := (hb.drewN nq).alloc _
    have hqq : QR ((w.drewN nq).alloc (.cells #[.int .i64 x] 3)) (fun i => ok i ∧ i ≠ b) 3 A L.length c (L.map (Value.int .i64)) := (hqn.drewN nq).alloc _
    have hkk : Keep ok w ((w.drewN nq).alloc (.cells #[.int .i64 x] 3)) := ((Keep.refl ok w).drewN nq).alloc _
    have hbl := hb.lt
    go_wp2_with (at_builtin; refine wpList_append_q rfl _ _ 22 rfl 3 i (.int .i64 0) 8 Try.underlying22 hi hz hs hby rfl A L.length c (L.map (Value.int .i64)) rfl hqq w.heap.size (.int .i64 x) rfl ?c1 rfl ?c2 ?c3 ?_)
    case c1 => simpa using (Blk.new (w.drewN nq) 3 #[.int .i64 x]).cell 0
    case c2 => omega
    case c3 => omega
    intro A' c' w1 hq1 hk1
    have hb1 : Blk w1 b 50 #[.int .i64 most, .slice A L.length c, .bool lost] := hk1.blk hbq (fun h => h.2 rfl)
    have f1 := hb1.cell 1
    simp at f1
    have f2 := hb1.frozen 1
    have hb2 := hb1.set_ 1 (.slice A' (L.length + 1) c')
    have hq2 := hq1.far (p := ⟨b, 1, none⟩) (by rintro (h | h) <;> first | exact h.2 rfl | omega | (simp at h; omega)) (.slice A' (L.length + 1) c')
    have hk2 : Keep ok w (w1.setCell ⟨b, 1, none⟩ (.slice A' (L.length + 1) c')) := (hkk.trans hk1 (fun i h => .inl h.1)).set_ (.inl ob) _
    have hR : GRep (w1.setCell ⟨b, 1, none⟩ (.slice A' (L.length + 1) c')) (fun k => ok k ∨ w.heap.size ≤ k) b most (L ++ [x]) lost :=
      ⟨A', c', .inl ob, h0, h1, by simp; omega, by simpa using hb2, by
        have := hq2.mono (ok' := fun k => ok k ∨ w.heap.size ≤ k) (by rintro i (h | h) <;> first | exact .inl h.1 | exact .inr (by omega) | (simp at h; exact .inr (by omega)))
        simpa using this⟩
    clear hbq hqq hkk hq1 hk1 hb1 hb2 hq2 e0 e1 hqn hq hb hr'
    go_wp2
    go_ret
    exact ⟨rfl, hR, hk2⟩
  · have hd : decide ((L.length : Int) < most) = false := by simpa using hlt
    have hd2 : decide (most ≤ (L.length : Int)) = true := by simp; omega
    rw [hd, if_neg hlt, hd2, Bool.or_true]
    clear hd
    go_enter Try.func20, Try.ntmps20
    go_wp2
    go_quiet (fail)
    have hR : GRep (((w.drewN nq)).setCell ⟨b, 2, none⟩ (.bool true)) (fun k => ok k ∨ w.heap.size ≤ k) b most L true :=
      ⟨A, c, .inl ob, h0, h1, h2, by simpa using (hb.drewN nq).set_ 2 (.bool true), (((hq.ne_ hb (by decide)).drewN nq).far (p := ⟨b, 2, none⟩) (fun h => h.2 rfl) (.bool true)).mono (fun i h => .inl h.1)⟩
    have hK : Keep ok w (((w.drewN nq)).setCell ⟨b, 2, none⟩ (.bool true)) := ((Keep.refl ok w).drewN nq).set_ (.inl ob) _
    clear hr' hb hq
    go_wp2
    go_ret
    exact ⟨rfl, hR, hK⟩

/-- The last one, or 0; is there one? -/
def last0 (L : List Int) : Int := L[L.length - 1]?.getD 0
def some0 : List Int → Bool | [] => false | _ :: _ => true

theorem run_cutm {t e : TypeId} {P : Program} {i : TypeInfo} (ht : P.underlying t = some (.slice e)) (hi : P.info? e = some i) (g off n c : Nat) (m : Int) (h0 : 0 ≤ m) (hm : m ≤ c) (W : World) :
    (Instr.slice t (.slice (some ⟨g, off, none⟩) n c) none (some (.int .i64 m)) none).run P W = .ok (.slice (some ⟨g, off, none⟩) m.toNat c) W := by
  have hel : P.elem t = e := by simp [Program.elem, ht]
  have hu : P.underlying t = some (.slice (P.elem t)) := by rw [hel]; exact ht
  rw [run_slice_h W t (some ⟨g, off, none⟩) n c hu .i64 m h0 hm, hel]
  simp [sizeOf, typeInfo, hi, sliced, Result.andThen, Addr.add_lit]

theorem Pop_calls {ok : Nat → Prop} {b : Nat} {most : Int} {L : List Int} {lost : Bool} (w : World) (hr : GRep w ok b most L lost) :
    Calls Try.prog 21 #[.pointer (some ⟨b, 0, none⟩)] w fun e w' =>
      e = .returned (.tuple #[.int .i64 (last0 L), .bool (some0 L)]) ∧ GRep w' ok b most (L.take (L.length - 1)) lost ∧ Keep ok w w' := by
  have hr' := hr
  obtain ⟨A, c, ob, h0, h1, h2, hb, hq⟩ := hr
  have e1 := hb.cell 1
  simp at e1
  by_cases hL : L.length = 0
  · have : L = [] := List.eq_nil_of_length_eq_zero hL
    subst this
    go_enter Try.func21, Try.ntmps21
    go_wp2_with fail
    refine (Len_calls w hr').mono ?_
    rintro e w1 ⟨rfl, rfl⟩
    rw [show (([] : List Int).length : Int) = 0 from rfl]
    go_wp2_with fail
    go_ret2
    exact ⟨rfl, hr', Keep.refl _ _⟩
  · have hs0 : some0 L = true := by cases L with | nil => simp at hL | cons _ _ => rfl
    obtain ⟨g, off, rfl, hg, hgl, hcell, hfz⟩ := hq.at_ (i := 0) (by omega)
    have c0 := hcell (L.length - 1) (by omega)
    have c1 : w.cell? ⟨g, off + (L.length - 1), none⟩ = some (.int .i64 (last0 L)) := by
      rw [c0]; simp [last0, show L.length - 1 < L.length by omega]
    have f1 := hb.frozen 1
    have hcap : L.length ≤ c := hq.2.1
    obtain ⟨i, hi, hz, hs, hby⟩ := info_parts info_int
    have hq3 := ((hq.take (m := L.length - 1) (by omega)).ne_ hb (by decide)).far (p := ⟨b, 1, none⟩) (fun h => h.2 rfl) (.slice (some ⟨g, off, none⟩) (L.length - 1) c)
    have hb3 := hb.set_ 1 (.slice (some ⟨g, off, none⟩) (L.length - 1) c)
    have hlt : (L.take (L.length - 1)).length = L.length - 1 := by rw [List.length_take]; omega
    have hR : GRep (w.setCell ⟨b, 1, none⟩ (.slice (some ⟨g, off, none⟩) (L.length - 1) c)) ok b most (L.take (L.length - 1)) lost :=
      ⟨some ⟨g, off, none⟩, c, ob, h0, h1, by omega, by rw [hlt]; simpa using hb3, by rw [hlt, List.map_take]; exact hq3.mono (fun i h => h.1)⟩
    have hK : Keep ok w (w.setCell ⟨b, 1, none⟩ (.slice (some ⟨g, off, none⟩) (L.length - 1) c)) := (Keep.refl _ _).set_ (.inl ob) _
    rw [hs0]
    generalize L.take (L.length - 1) = L2 at hR ⊢
    generalize last0 L = x at c1 ⊢
    obtain ⟨n, hn⟩ : ∃ n, L.length = n + 1 := ⟨L.length - 1, by omega⟩
    have hlen : ∀ (w : World) , GRep w ok b most L lost → Calls Try.prog 25 #[.pointer (some ⟨b, 0, none⟩)] w fun e w' => e = .returned (.int .i64 ((n : Int) + 1)) ∧ w = w' := fun w h => by
      have := Len_calls w h
      rw [hn] at this
      exact_mod_cast this
    have hd : L.length - 1 = n := by omega
    have hnb : (n : Int) ≤ 1048575 := by omega
    rw [hd] at hR hK c1
    rw [hn] at e1 hcap
    have hsl : ∀ W : World, (Instr.slice 22 (.slice (some ⟨g, off, none⟩) (n + 1) c) none (some (.int .i64 (n : Int))) none).run Try.prog W = .ok (.slice (some ⟨g, off, none⟩) n c) W := by
      intro W
      have := run_cutm Try.underlying22 hi g off (n + 1) c (n : Int) (by omega) (by omega) W
      simpa using this
    clear hq hq3 hb3 hcell c0 hb hL hs0 hlt hd hn
    have hne : ((n : Int) + 1 == 0) = false := by simp; omega
    go_enter Try.func21, Try.ntmps21
    go_wp2_with fail
    refine (hlen w hr').mono ?_
    rintro e w1 ⟨rfl, rfl⟩
    go_wp2_with fail
    go_ret2
    exact ⟨rfl, hR, hK⟩


/-- Clone of a row. -/
theorem Clone_q {ok : Nat → Prop} {A : Option Addr} {c : Nat} {L : List Int} (w : World) (hl : L.length ≤ 1048576) (hq : QR w ok 3 A L.length c (L.map (Value.int .i64))) :
    Calls Try.prog 30 #[.slice A L.length c] w fun e w' =>
      ∃ A' c', e = .returned (.slice A' L.length c') ∧ L.length ≤ c' ∧ w'.ownsRow w.heap.size 3 1 (.slice A' L.length c') L.length (L.map (Value.int .i64)) ∧ Keep (fun _ => False) w w' := by
  obtain ⟨i, hi, hz, hs, hb⟩ := info_parts info_int
  rcases hq.2.2.2 with ⟨rfl, hc0⟩ | ⟨g, off, cur, rfl, hg, hbg, hsz, htk⟩
  · have h0 : L.length = 0 := by have := hq.2.1; omega
    have : L = [] := List.eq_nil_of_length_eq_zero h0
    subst this
    subst hc0
    have hnil := fun (W : World) => Lib.run_eql_slice_nil (P := Try.prog) W 22 3 none 0 0 0 0 Try.underlying22
    rw [show ([] : List Int).length = 0 from rfl]
    go_enter Try.func30, Try.ntmps30
    go_wp2
    go_ret
    exact ⟨none, 0, rfl, Nat.le_refl _, World.ownsRow_nil _ _ _ _, Keep.refl _ _⟩
  · have hnil := fun (W : World) => Lib.run_eql_slice_nil (P := Try.prog) W 22 3 (some ⟨g, off, none⟩) L.length c 0 0 Try.underlying22
    have hcell : ∀ (W : World), (∀ k, k < w.heap.size → W.heap[k]? = w.heap[k]?) → ∀ j u, (L.map (Value.int .i64))[j]? = some u → W.cell? ((⟨g, off, none⟩ : Addr).add j) = some u := by
      intro W hW j u hu
      have hj : j < L.length := by
        rcases Nat.lt_or_ge j L.length with h | h
        · exact h
        · rw [List.getElem?_eq_none (by simpa using h)] at hu; cases hu
      have hb' : Blk W g 3 cur := (hW g hbg.lt).trans hbg
      rw [Addr.add_lit, hb'.cell]
      rw [← htk, List.getElem?_take, if_pos hj, List.getElem?_drop, Array.getElem?_toList] at hu
      exact hu
    have hlc : L.length ≤ c := hq.2.1
    have hcm : c ≤ 9223372036854775807 := hq.2.2.1
    have HC := Lib.hid hcell
    clear hcell htk hsz
    go_enter Try.func30, Try.ntmps30
    go_wp2_with (at_builtin; refine wpList_append_own _ rfl _ _ 22 rfl w.heap.size 3 i (.int .i64 0) 1 8 Try.underlying22 hi hz hs hb rfl (by decide) _ 0 [] rfl ?c0 ⟨g, off, none⟩ L.length c (L.map (Value.int .i64)) rfl ?c1 ?c2 ?c3 ?c4 ?c5 ?c6 ?_)
    case c0 => exact World.ownsRow_lit w #[] 0 (Nat.le_refl _) (by unfold maxLen; omega) (by simp)
    case c1 => simp
    case c2 => exact HC.out _ (fun k hk => Below.heap_alloc w _ k hk)
    case c3 => intro u hu; simp at hu; obtain ⟨x, _, rfl⟩ := hu; rfl
    case c4 => unfold maxLen; omega
    case c5 => omega
    case c6 => simp
    intro v' w1 hown hgrow _
    obtain ⟨A, c', hv, hlc⟩ : ∃ A c', v' = .slice A L.length c' ∧ L.length ≤ c' := by
      rcases hown.2 with ⟨h, h0⟩ | ⟨g', cap, cur, h, _, _, h2, _⟩
      · exact ⟨none, 0, by rw [h, show L.length = 0 by omega], by omega⟩
      · exact ⟨_, cap, h, h2⟩
    subst hv
    go_wp2
    go_ret
    refine ⟨A, c', rfl, hlc, by simpa using hown, ?_⟩
    exact ((Keep.refl _ w).alloc _).trans (Keep.of_grown (ok := fun i => w.heap.size ≤ i) hgrow (by intro g h; simp [Value.ownBlock] at h; omega)) (fun i h => .inr h)

theorem All_calls {ok : Nat → Prop} {b : Nat} {most : Int} {L : List Int} {lost : Bool} (w : World) (hr : GRep w ok b most L lost) :
    Calls Try.prog 26 #[.pointer (some ⟨b, 0, none⟩)] w fun e w' => ∃ A c, e = .returned (.slice A L.length c) ∧ SL w' (fun i => w.heap.size ≤ i) .i64 (.slice A L.length c) L ∧ Keep (fun _ => False) w w' := by
  obtain ⟨A, c, ob, h0, h1, h2, hb, hq⟩ := hr
  have e1 := hb.cell 1
  simp at e1
  go_enter Try.func26, Try.ntmps26
  go_wp2_with fail
  refine (Clone_q w (by omega) hq).mono ?_
  rintro e w1 ⟨A', c', rfl, hle, hown, hk⟩
  go_wp2_with fail
  refine (Clip_calls w1 hle (by omega)).mono ?_
  rintro e w2 ⟨rfl, rfl⟩
  go_wp2_with fail
  go_ret
  refine ⟨_, _, rfl, ?_, hk⟩
  obtain ⟨A2, c2, e, h1, h2⟩ := SL.of_own (ok := fun i => w.heap.size ≤ i) (k := .i64) hown (fun i h => h)
  simp only [Value.slice.injEq] at e
  obtain ⟨rfl, _, rfl⟩ := e
  exact ⟨_, _, rfl, by omega, h2⟩
end Go.Proofs.Ytdibadfecoipfaa.Gy
