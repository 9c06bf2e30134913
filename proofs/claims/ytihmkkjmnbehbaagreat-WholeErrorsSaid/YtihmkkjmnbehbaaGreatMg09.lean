/- Texts of the whole heap, joined: Head. No condition beside those that each lemma names. -/
import Derived.Test.YtihmkkjmnbehbaaGreatProg
import Derived.Test.YtihmkkjmnbehbaaGreatMg00
import Derived.Laws.BitsAllLaws
import Derived.Deep.RegionWith
import Derived.Outline
/- Heads as words, and contracts of package head. Condition: a word is one of 64 bits. -/
set_option linter.unusedVariables false
set_option linter.unusedSimpArgs false
namespace Go.Proofs.YtihmkkjmnbehbaaGreat.Hea
open Go.RowKit Go.Proofs.YtihmkkjmnbehbaaGreat.W

theorem or_join (i : Nat) (a b : Int) (h1 : 0 ≤ a) (h2 : a < (2 ^ i : Nat)) (h3 : 0 ≤ b) (h4 : b.toNat % 2 ^ i = 0) (ha : a < 18446744073709551616) (hb : b < 18446744073709551616) : bits .or .u64 a b = a + b := by
  rw [u64_or a b h1 ha h3 hb, Nat.or_comm, nat_join i b.toNat a.toNat h4 (by omega)]
  omega
theorem and_16 (a : Int) (h1 : 0 ≤ a) (h2 : a < 18446744073709551616) : bits .and .u64 a 65535 = a % 65536 := by
  rw [u64_and a 65535 h1 h2 (by omega) (by omega)]
  have := nat_mask16 a.toNat
  rw [show (65535 : Int).toNat = 65535 from rfl, this]
  omega
theorem and_8 (a : Int) (h1 : 0 ≤ a) (h2 : a < 18446744073709551616) : bits .and .u64 a 255 = a % 256 := by
  rw [u64_and a 255 h1 h2 (by omega) (by omega)]
  rw [show (255 : Int).toNat = 255 from rfl, nat_mask8]
  omega
theorem and_1 (a : Int) (h1 : 0 ≤ a) (h2 : a < 18446744073709551616) : bits .and .u64 a 1 = a % 2 := by
  rw [u64_and a 1 h1 h2 (by omega) (by omega)]
  rw [show (1 : Int).toNat = 1 from rfl, nat_mask1]
  omega

/-- A head. -/
structure Hd where
  size : Int
  ptrs : Int
  age : Int
  par : Int
  grey : Bool
  noted : Bool
  old : Bool
def Hd.cells (h : Hd) : Array Value := #[.int .i64 h.size, .int .i64 h.ptrs, .int .i64 h.age, .int .i64 h.par, .bool h.grey, .bool h.noted, .bool h.old]
def Hd.good (h : Hd) : Prop := 0 ≤ h.size ∧ h.size ≤ 64 ∧ 0 ≤ h.ptrs ∧ h.ptrs ≤ h.size ∧ 0 ≤ h.age ∧ h.age ≤ 7 ∧ 0 ≤ h.par ∧ h.par ≤ 1
instance (h : Hd) : Decidable h.good := by unfold Hd.good; infer_instance
def Hd.zero : Hd := ⟨0, 0, 0, 0, false, false, false⟩
/-- A head's word, as a sum. -/
def Hd.word (h : Hd) : Int :=
  17592186044416 + h.size + 65536 * h.ptrs + 4294967296 * h.age + 1099511627776 * h.par + (if h.grey then 2199023255552 else 0) + (if h.noted then 4398046511104 else 0) + (if h.old then 8796093022208 else 0)
/-- What the bits of a word say. -/
def rawHd (w : Int) : Hd := ⟨w % 65536, w / 65536 % 65536, w / 4294967296 % 256, w / 1099511627776 % 2, w / 2199023255552 % 2 == 1, w / 4398046511104 % 2 == 1, w / 8796093022208 % 2 == 1⟩
def isHead (w : Int) : Prop := (rawHd w).good ∧ (rawHd w).word = w
instance (w : Int) : Decidable (isHead w) := by unfold isHead; infer_instance
def hdOf (w : Int) : Hd := if isHead w then rawHd w else Hd.zero

theorem word_bound {h : Hd} (hg : h.good) : 17592186044416 ≤ h.word ∧ h.word < 35184372088832 := by
  obtain ⟨a0, a1, a2, a3, g, n, o⟩ := h
  unfold Hd.good at hg
  unfold Hd.word
  simp only [] at hg ⊢
  cases g <;> cases n <;> cases o <;> simp <;> omega
theorem raw_word {h : Hd} (hg : h.good) : rawHd h.word = h := by
  obtain ⟨a0, a1, a2, a3, g, n, o⟩ := h
  unfold Hd.good at hg
  unfold rawHd Hd.word
  simp only [Hd.mk.injEq] at hg ⊢
  cases g <;> cases n <;> cases o <;> simp <;> (refine ⟨?_, ?_, ?_, ?_, ?_, ?_, ?_⟩ <;> omega)
theorem isHead_word {h : Hd} (hg : h.good) : isHead h.word := by
  unfold isHead
  rw [raw_word hg]
  exact ⟨hg, rfl⟩
theorem hdOf_word {h : Hd} (hg : h.good) : hdOf h.word = h := by
  unfold hdOf
  rw [if_pos (isHead_word hg), raw_word hg]
theorem word_inj {h k : Hd} (hg : h.good) (kg : k.good) (e : h.word = k.word) : h = k := by
  rw [← raw_word hg, ← raw_word kg, e]

/-- What Pack's first line comes to. -/
theorem pack_low {a0 a1 a2 a3 : Int} (h : 0 ≤ a0 ∧ a0 ≤ 64 ∧ 0 ≤ a1 ∧ a1 ≤ a0 ∧ 0 ≤ a2 ∧ a2 ≤ 7 ∧ 0 ≤ a3 ∧ a3 ≤ 1) :
    bits .or .u64 (bits .or .u64 (bits .or .u64 (IntKind.u64.wrap a0) (IntKind.u64.wrap (IntKind.u64.wrap a1 * 65536))) (IntKind.u64.wrap (IntKind.u64.wrap a2 * 4294967296))) (IntKind.u64.wrap (IntKind.u64.wrap a3 * 1099511627776))
      = a0 + 65536 * a1 + 4294967296 * a2 + 1099511627776 * a3 := by
  have e0 : IntKind.u64.wrap a0 = a0 := by rw [IntKind.wrap_u64]; omega
  have e1 : IntKind.u64.wrap (IntKind.u64.wrap a1 * 65536) = a1 * 65536 := by simp only [IntKind.wrap_u64]; omega
  have e2 : IntKind.u64.wrap (IntKind.u64.wrap a2 * 4294967296) = a2 * 4294967296 := by simp only [IntKind.wrap_u64]; omega
  have e3 : IntKind.u64.wrap (IntKind.u64.wrap a3 * 1099511627776) = a3 * 1099511627776 := by simp only [IntKind.wrap_u64]; omega
  rw [e0, e1, e2, e3]
  rw [or_join 16 a0 (a1 * 65536) (by omega) (by omega) (by omega) (by omega) (by omega) (by omega)]
  rw [or_join 32 (a0 + a1 * 65536) (a2 * 4294967296) (by omega) (by omega) (by omega) (by omega) (by omega) (by omega)]
  rw [or_join 40 (a0 + a1 * 65536 + a2 * 4294967296) (a3 * 1099511627776) (by omega) (by omega) (by omega) (by omega) (by omega) (by omega)]
  omega
theorem pack_high {x g n o : Int} (h0 : 0 ≤ x) (h1 : x < 2199023255552) (hg : g = 0 ∨ g = 2199023255552) (hn : n = 0 ∨ n = 4398046511104) (ho : o = 0 ∨ o = 8796093022208) :
    bits .or .u64 (bits .or .u64 (bits .or .u64 (bits .or .u64 x g) n) o) 17592186044416 = 17592186044416 + x + g + n + o := by
  rw [or_join 41 _ g (by omega) (by omega) (by omega) (by omega) (by omega) (by omega)]
  rw [or_join 42 _ n (by omega) (by omega) (by omega) (by omega) (by omega) (by omega)]
  rw [or_join 43 _ o (by omega) (by omega) (by omega) (by omega) (by omega) (by omega)]
  rw [or_join 44 _ 17592186044416 (by omega) (by omega) (by omega) (by omega) (by omega) (by omega)]
  omega

theorem ret_bool {a b : Bool} (h : a = b) : Ending.returned (.bool a) = .returned (.bool b) := by rw [h]
theorem good_bool {h : Hd} {b : Bool} (e : b = true ↔ (0 ≤ h.size ∧ h.size ≤ 64 ∧ 0 ≤ h.ptrs ∧ h.ptrs ≤ h.size ∧ 0 ≤ h.age ∧ h.age ≤ 7 ∧ 0 ≤ h.par ∧ h.par ≤ 1)) : b = decide h.good := by
  rw [Bool.eq_iff_iff, decide_eq_true_eq]; exact e
theorem Good_calls (h : Hd) (w : World) : Calls Tryz.prog 135 #[.agg h.cells] w fun e w' => e = .returned (.bool (decide h.good)) ∧ Keep (fun _ => False) w w' := by
  obtain ⟨a0, a1, a2, a3, g, n, o⟩ := h
  unfold Hd.cells
  simp only []
  obtain ⟨r, hr⟩ : ∃ r, decide (Hd.good ⟨a0, a1, a2, a3, g, n, o⟩) = r := ⟨_, rfl⟩
  rw [hr]
  have HR := Lib.hid hr
  clear hr
  go_enter Tryz.func135, Tryz.ntmps135
  go_wp2
  all_goals
    go_ret
    refine ⟨ret_bool ?_, (Keep.refl _ w).alloc _⟩
    rw [← HR.out]
    refine good_bool ?_
    simp only []
    first
      | (simp only [Bool.false_eq_true, false_iff]; omega)
      | (simp only [Bool.or_eq_true, beq_iff_eq]; omega)
      | (simp only [true_iff]; omega)

theorem bit_calls (b : Bool) (i v : Int) (w : World) (hi : 0 ≤ i) (hv : IntKind.u64.wrap (2 ^ min i.toNat 64) = v) : Calls Tryz.prog 177 #[.bool b, .int .i64 i] w fun e w' => e = .returned (.int .u64 (if b then v else 0)) ∧ w' = w := by
  have HV := Lib.hid hv
  clear hv
  cases b
  · go_enter Tryz.func177, Tryz.ntmps177
    go_wp2
    go_ret
    exact ⟨rfl, rfl⟩
  · go_enter Tryz.func177, Tryz.ntmps177
    go_wp2
    go_ret
    refine ⟨?_, rfl⟩
    show Ending.returned (.int .u64 (IntKind.u64.wrap (2 ^ min i.toNat 64))) = _
    rw [HV.out]
theorem bit41 {b : Bool} {v : Int} (hv : Hid ((if b then 2199023255552 else 0) = v)) (w : World) : Calls Tryz.prog 177 #[.bool b, .int .i64 41] w fun e w' => e = .returned (.int .u64 v) ∧ w' = w := hv.out ▸ bit_calls b 41 2199023255552 w (by omega) (by decide)
theorem bit42 {b : Bool} {v : Int} (hv : Hid ((if b then 4398046511104 else 0) = v)) (w : World) : Calls Tryz.prog 177 #[.bool b, .int .i64 42] w fun e w' => e = .returned (.int .u64 v) ∧ w' = w := hv.out ▸ bit_calls b 42 4398046511104 w (by omega) (by decide)
theorem bit43 {b : Bool} {v : Int} (hv : Hid ((if b then 8796093022208 else 0) = v)) (w : World) : Calls Tryz.prog 177 #[.bool b, .int .i64 43] w fun e w' => e = .returned (.int .u64 v) ∧ w' = w := hv.out ▸ bit_calls b 43 8796093022208 w (by omega) (by decide)

theorem Pack_calls (h : Hd) (w : World) : Calls Tryz.prog 166 #[.agg h.cells] w fun e w' => e = .returned (.tuple #[.int .u64 (if h.good then h.word else 0), .bool (decide h.good)]) ∧ Keep (fun _ => False) w w' := by
  by_cases hg : h.good
  · rw [if_pos hg]
    have hd : decide h.good = true := by simpa using hg
    rw [hd]
    have hG := fun W => Good_calls h W
    rw [hd] at hG
    have HG := Lib.hid hG
    have HP := Lib.hid (pack_low hg)
    have HX := Lib.hid hg
    have hw : h.word = 17592186044416 + (h.size + 65536 * h.ptrs + 4294967296 * h.age + 1099511627776 * h.par) + (if h.grey then 2199023255552 else 0) + (if h.noted then 4398046511104 else 0) + (if h.old then 8796093022208 else 0) := by unfold Hd.word; omega
    have HW := Lib.hid hw
    have hlo : 0 ≤ h.size + 65536 * h.ptrs + 4294967296 * h.age + 1099511627776 * h.par ∧ h.size + 65536 * h.ptrs + 4294967296 * h.age + 1099511627776 * h.par < 2199023255552 := by unfold Hd.good at hg; omega
    have HL := Lib.hid hlo
    have hh := pack_high hlo.1 hlo.2 (g := if h.grey then 2199023255552 else 0) (n := if h.noted then 4398046511104 else 0) (o := if h.old then 8796093022208 else 0) (by cases h.grey <;> simp) (by cases h.noted <;> simp) (by cases h.old <;> simp)
    have HH := Lib.hid hh
    clear hG hd hw hg hlo hh
    obtain ⟨a0, a1, a2, a3, g, n, o⟩ := h
    simp only [Hd.cells] at HP HH HG HW ⊢
    obtain ⟨vg, hvg⟩ : ∃ v, (if g then (2199023255552 : Int) else 0) = v := ⟨_, rfl⟩
    obtain ⟨vn, hvn⟩ : ∃ v, (if n then (4398046511104 : Int) else 0) = v := ⟨_, rfl⟩
    obtain ⟨vo, hvo⟩ : ∃ v, (if o then (8796093022208 : Int) else 0) = v := ⟨_, rfl⟩
    rw [hvg, hvn, hvo] at HH HW
    have HVG := Lib.hid hvg
    have HVN := Lib.hid hvn
    have HVO := Lib.hid hvo
    clear hvg hvn hvo
    have hgw : ∀ w : World, Calls Tryz.prog 135 #[.agg #[.int .i64 a0, .int .i64 a1, .int .i64 a2, .int .i64 a3, .bool g, .bool n, .bool o]] w fun e w' => e = .returned (.bool true) ∧ Keep (fun _ => False) w w' := fun w => HG.out w
    have HG' := Lib.hid hgw
    clear hgw
    have hB := Blk.new w 99 #[.int .i64 a0, .int .i64 a1, .int .i64 a2, .int .i64 a3, .bool g, .bool n, .bool o]
    have hK := (Keep.refl (fun _ => False) w).alloc (.cells #[.int .i64 a0, .int .i64 a1, .int .i64 a2, .int .i64 a3, .bool g, .bool n, .bool o] 99)
    go_enter Tryz.func166, Tryz.ntmps166
    go_wp2_with fail
    refine (HG'.out _).mono ?_
    rintro e w1 ⟨rfl, k1⟩
    have hB1 := k1.blk hB (fun h => h)
    have hK1 := hK.trans k1 (fun i h => .inl h)
    have c0 := hB1.cell 0
    have c1 := hB1.cell 1
    have c2 := hB1.cell 2
    have c3 := hB1.cell 3
    have c4 := hB1.cell 4
    have c5 := hB1.cell 5
    have c6 := hB1.cell 6
    simp at c0 c1 c2 c3 c4 c5 c6
    clear hB hB1 hK k1 HG HG'
    go_wp2_with fail
    go_quiet ((first | (go_at_call_of 177 (Value.int .i64 41); exact Calls.quiet_of_same (bit41 HVG _)) | (go_at_call_of 177 (Value.int .i64 42); exact Calls.quiet_of_same (bit42 HVN _)) | (go_at_call_of 177 (Value.int .i64 43); exact Calls.quiet_of_same (bit43 HVO _))))
    go_wp2_with fail
    go_ret2
    refine ⟨?_, hK1.drewN _⟩
    rw [HW.out, ← HH.out, ← HP.out]
    first | done | rfl
  · rw [if_neg hg]
    have hd : decide h.good = false := by simpa using hg
    rw [hd]
    have hG := fun W => Good_calls h W
    rw [hd] at hG
    have HG := Lib.hid hG
    clear hG hd hg
    obtain ⟨a0, a1, a2, a3, g, n, o⟩ := h
    simp only [Hd.cells] at HG ⊢
    have hgw : ∀ w : World, Calls Tryz.prog 135 #[.agg #[.int .i64 a0, .int .i64 a1, .int .i64 a2, .int .i64 a3, .bool g, .bool n, .bool o]] w fun e w' => e = .returned (.bool false) ∧ Keep (fun _ => False) w w' := fun w => HG.out w
    have HG' := Lib.hid hgw
    clear hgw HG
    have hK := (Keep.refl (fun _ => False) w).alloc (.cells #[.int .i64 a0, .int .i64 a1, .int .i64 a2, .int .i64 a3, .bool g, .bool n, .bool o] 99)
    go_enter Tryz.func166, Tryz.ntmps166
    go_wp2_with fail
    refine (HG'.out _).mono ?_
    rintro e w1 ⟨rfl, k1⟩
    go_wp2_with fail
    go_ret2
    exact ⟨rfl, hK.trans k1 (fun i h => .inl h)⟩

theorem isHead_iff {w : Int} (h1 : 0 ≤ w) (h2 : w < 18446744073709551616) : isHead w ↔ ((rawHd w).good ∧ (if (rawHd w).good then (rawHd w).word else 0) = w) := by
  unfold isHead
  constructor
  · rintro ⟨a, b⟩; exact ⟨a, by rw [if_pos a]; exact b⟩
  · rintro ⟨a, b⟩; rw [if_pos a] at b; exact ⟨a, b⟩

theorem Unpack_res (tmps : Array Value) (w : World) (b : Nat) (h : Hd) (t : Bool) (hB : Blk w b 99 h.cells) (h2 : tmps[2]?.getD undef = .pointer (some ⟨b, 0, none⟩)) (h3 : tmps[3]?.getD undef = .bool t) :
    (results Tryz.f164 tmps).run Tryz.prog w = .ok (.tuple #[.agg h.cells, .bool t]) w := by
  obtain ⟨a0, a1, a2, a3, g, n, o⟩ := h
  have e0 := hB.cell 0
  have e1 := hB.cell 1
  have e2 := hB.cell 2
  have e3 := hB.cell 3
  have e4 := hB.cell 4
  have e5 := hB.cell 5
  have e6 := hB.cell 6
  simp [Hd.cells] at e0 e1 e2 e3 e4 e5 e6
  simp [results, Tryz.results164, go_sem, h2, h3, e0, e1, e2, e3, e4, e5, e6, Hd.cells]
/-- A block of a head, written anew. -/
theorem put_hd {w : World} {b : Nat} {h : Hd} (hB : Blk w b 99 h.cells) (k : Hd) :
    Blk (((((((w.setCell ⟨b, 0, none⟩ (.int .i64 k.size)).setCell ⟨b, 1, none⟩ (.int .i64 k.ptrs)).setCell ⟨b, 2, none⟩ (.int .i64 k.age)).setCell ⟨b, 3, none⟩ (.int .i64 k.par)).setCell ⟨b, 4, none⟩ (.bool k.grey)).setCell ⟨b, 5, none⟩ (.bool k.noted)).setCell ⟨b, 6, none⟩ (.bool k.old)) b 99 k.cells := by
  have := ((((((hB.set_ 0 (.int .i64 k.size)).set_ 1 (.int .i64 k.ptrs)).set_ 2 (.int .i64 k.age)).set_ 3 (.int .i64 k.par)).set_ 4 (.bool k.grey)).set_ 5 (.bool k.noted)).set_ 6 (.bool k.old)
  simpa [Hd.cells] using this
theorem keep_hd {W w : World} {b : Nat} (hk : Keep (fun _ => False) W w) (hb : W.heap.size ≤ b) (k : Hd) :
    Keep (fun _ => False) W (((((((w.setCell ⟨b, 0, none⟩ (.int .i64 k.size)).setCell ⟨b, 1, none⟩ (.int .i64 k.ptrs)).setCell ⟨b, 2, none⟩ (.int .i64 k.age)).setCell ⟨b, 3, none⟩ (.int .i64 k.par)).setCell ⟨b, 4, none⟩ (.bool k.grey)).setCell ⟨b, 5, none⟩ (.bool k.noted)).setCell ⟨b, 6, none⟩ (.bool k.old)) :=
  ((((((hk.set_ (.inr hb) _).set_ (.inr hb) _).set_ (.inr hb) _).set_ (.inr hb) _).set_ (.inr hb) _).set_ (.inr hb) _).set_ (.inr hb) _
set_option maxHeartbeats 4000000 in
theorem Unpack_calls (x : Int) (w : World) (h1 : 0 ≤ x) (h2 : x < 18446744073709551616) : Calls Tryz.prog 164 #[.int .u64 x] w fun e w' => e = .returned (.tuple #[.agg (hdOf x).cells, .bool (decide (isHead x))]) ∧ Keep (fun _ => False) w w' := by
  have b0 := and_16 x h1 h2
  have b1 := and_16 (x / 65536) (by omega) (by omega)
  have b2 := and_8 (x / 4294967296) (by omega) (by omega)
  have b3 := and_1 (x / 1099511627776) (by omega) (by omega)
  have b4 := and_1 (x / 2199023255552) (by omega) (by omega)
  have b5 := and_1 (x / 4398046511104) (by omega) (by omega)
  have b6 := and_1 (x / 8796093022208) (by omega) (by omega)
  have r0 : 0 ≤ x % 65536 ∧ x % 65536 < 65536 := by omega
  have r1 : 0 ≤ x / 65536 % 65536 ∧ x / 65536 % 65536 < 65536 := by omega
  have r2 : 0 ≤ x / 4294967296 % 256 ∧ x / 4294967296 % 256 < 256 := by omega
  have r3 : 0 ≤ x / 1099511627776 % 2 ∧ x / 1099511627776 % 2 < 2 := by omega
  have HH := Lib.hid (isHead_iff h1 h2)
  have hof : hdOf x = if isHead x then rawHd x else Hd.zero := rfl
  have HO := Lib.hid hof
  obtain ⟨K, hK⟩ : ∃ K, rawHd x = K := ⟨_, rfl⟩
  rw [hK] at HH HO
  have hK' := hK
  unfold rawHd at hK'
  clear hof hK
  have HK' := Lib.hid hK'
  clear hK'
  go_enter Tryz.func164, Tryz.ntmps164
  go_wp2_with fail
  refine (Pack_calls ⟨x % 65536, x / 65536 % 65536, x / 4294967296 % 256, x / 1099511627776 % 2, x / 2199023255552 % 2 == 1, x / 4398046511104 % 2 == 1, x / 8796093022208 % 2 == 1⟩ _).mono ?_
  rw [HK'.out]
  by_cases hg : K.good
  · have hd : decide K.good = true := by simpa using hg
    rw [if_pos hg, hd]
    rw [if_pos hg] at HH
    rintro e w1 ⟨rfl, k1⟩
    have f0 := (Blk.new w 99 #[.int .i64 0, .int .i64 0, .int .i64 0, .int .i64 0, .bool false, .bool false, .bool false]).alloc (.cells #[.int .i64 (x % 65536), .int .i64 (x / 65536 % 65536), .int .i64 (x / 4294967296 % 256), .int .i64 (x / 1099511627776 % 2), .bool (x / 2199023255552 % 2 == 1), .bool (x / 4398046511104 % 2 == 1), .bool (x / 8796093022208 % 2 == 1)] 99)
    have g0 := Blk.new (w.alloc (.cells #[.int .i64 0, .int .i64 0, .int .i64 0, .int .i64 0, .bool false, .bool false, .bool false] 99)) 99 #[.int .i64 (x % 65536), .int .i64 (x / 65536 % 65536), .int .i64 (x / 4294967296 % 256), .int .i64 (x / 1099511627776 % 2), .bool (x / 2199023255552 % 2 == 1), .bool (x / 4398046511104 % 2 == 1), .bool (x / 8796093022208 % 2 == 1)]
    have kk := (((Keep.refl (fun _ => False) w).alloc (.cells #[.int .i64 0, .int .i64 0, .int .i64 0, .int .i64 0, .bool false, .bool false, .bool false] 99)).alloc (.cells #[.int .i64 (x % 65536), .int .i64 (x / 65536 % 65536), .int .i64 (x / 4294967296 % 256), .int .i64 (x / 1099511627776 % 2), .bool (x / 2199023255552 % 2 == 1), .bool (x / 4398046511104 % 2 == 1), .bool (x / 8796093022208 % 2 == 1)] 99)).trans k1 (fun i h => .inl h)
    rw [show (w.alloc (.cells #[.int .i64 0, .int .i64 0, .int .i64 0, .int .i64 0, .bool false, .bool false, .bool false] 99)).heap.size = w.heap.size + 1 from by show (w.heap.push _).size = _; rw [Array.size_push]] at g0
    have f1 := k1.blk f0 (fun h => h)
    have g1 := k1.blk g0 (fun h => h)
    generalize K.word = W at HH ⊢
    have kf : ∀ i, w1.frozen? ⟨w.heap.size, i, none⟩ = false := fun i => f1.frozen i
    have e0 := f1.cell 0
    have e1 := f1.cell 1
    have e2 := f1.cell 2
    have e3 := f1.cell 3
    have e4 := f1.cell 4
    have e5 := f1.cell 5
    have e6 := f1.cell 6
    simp at e0 e1 e2 e3 e4 e5 e6
    have d0 := g1.cell 0
    have d1 := g1.cell 1
    have d2 := g1.cell 2
    have d3 := g1.cell 3
    have d4 := g1.cell 4
    have d5 := g1.cell 5
    have d6 := g1.cell 6
    simp at d0 d1 d2 d3 d4 d5 d6
    clear f0 g0 g1 k1
    have ks := Lib.hid kk
    by_cases he : W = x
    · have hne : (W != x) = false := by simpa using he
      have HE := Lib.hid he
      clear he
      go_wp2_with fail
      refine bodyPost_ret (Unpack_res _ _ w.heap.size ⟨x % 65536, x / 65536 % 65536, x / 4294967296 % 256, x / 1099511627776 % 2, x / 2199023255552 % 2 == 1, x / 4398046511104 % 2 == 1, x / 8796093022208 % 2 == 1⟩ true (put_hd (h := Hd.zero) f1 ⟨x % 65536, x / 65536 % 65536, x / 4294967296 % 256, x / 1099511627776 % 2, x / 2199023255552 % 2 == 1, x / 4398046511104 % 2 == 1, x / 8796093022208 % 2 == 1⟩) rfl rfl) rfl ⟨?_, keep_hd ks.out (Nat.le_refl _) ⟨x % 65536, x / 65536 % 65536, x / 4294967296 % 256, x / 1099511627776 % 2, x / 2199023255552 % 2 == 1, x / 4398046511104 % 2 == 1, x / 8796093022208 % 2 == 1⟩⟩
      have hh := HH.out.2 ⟨hg, HE.out⟩
      rw [HO.out, if_pos hh, show decide (isHead x) = true from by simpa using hh, ← HK'.out]
    · have hne : (W != x) = true := by simpa using he
      have HN := Lib.hid he
      clear he
      go_wp2_with fail
      refine bodyPost_ret (Unpack_res _ _ w.heap.size Hd.zero false (put_hd (h := Hd.zero) f1 Hd.zero) rfl rfl) rfl ⟨?_, keep_hd ks.out (Nat.le_refl _) Hd.zero⟩
      have hh : ¬ isHead x := fun h => HN.out (HH.out.1 h).2
      rw [HO.out, if_neg hh, show decide (isHead x) = false from by simpa using hh]
  · have hd : decide K.good = false := by simpa using hg
    rw [if_neg hg, hd]
    rintro e w1 ⟨rfl, k1⟩
    have f0 := (Blk.new w 99 #[.int .i64 0, .int .i64 0, .int .i64 0, .int .i64 0, .bool false, .bool false, .bool false]).alloc (.cells #[.int .i64 (x % 65536), .int .i64 (x / 65536 % 65536), .int .i64 (x / 4294967296 % 256), .int .i64 (x / 1099511627776 % 2), .bool (x / 2199023255552 % 2 == 1), .bool (x / 4398046511104 % 2 == 1), .bool (x / 8796093022208 % 2 == 1)] 99)
    have g0 := Blk.new (w.alloc (.cells #[.int .i64 0, .int .i64 0, .int .i64 0, .int .i64 0, .bool false, .bool false, .bool false] 99)) 99 #[.int .i64 (x % 65536), .int .i64 (x / 65536 % 65536), .int .i64 (x / 4294967296 % 256), .int .i64 (x / 1099511627776 % 2), .bool (x / 2199023255552 % 2 == 1), .bool (x / 4398046511104 % 2 == 1), .bool (x / 8796093022208 % 2 == 1)]
    have kk := (((Keep.refl (fun _ => False) w).alloc (.cells #[.int .i64 0, .int .i64 0, .int .i64 0, .int .i64 0, .bool false, .bool false, .bool false] 99)).alloc (.cells #[.int .i64 (x % 65536), .int .i64 (x / 65536 % 65536), .int .i64 (x / 4294967296 % 256), .int .i64 (x / 1099511627776 % 2), .bool (x / 2199023255552 % 2 == 1), .bool (x / 4398046511104 % 2 == 1), .bool (x / 8796093022208 % 2 == 1)] 99)).trans k1 (fun i h => .inl h)
    rw [show (w.alloc (.cells #[.int .i64 0, .int .i64 0, .int .i64 0, .int .i64 0, .bool false, .bool false, .bool false] 99)).heap.size = w.heap.size + 1 from by show (w.heap.push _).size = _; rw [Array.size_push]] at g0
    have f1 := k1.blk f0 (fun h => h)
    have g1 := k1.blk g0 (fun h => h)
    have kf : ∀ i, w1.frozen? ⟨w.heap.size, i, none⟩ = false := fun i => f1.frozen i
    have e0 := f1.cell 0
    have e1 := f1.cell 1
    have e2 := f1.cell 2
    have e3 := f1.cell 3
    have e4 := f1.cell 4
    have e5 := f1.cell 5
    have e6 := f1.cell 6
    simp at e0 e1 e2 e3 e4 e5 e6
    have d0 := g1.cell 0
    have d1 := g1.cell 1
    have d2 := g1.cell 2
    have d3 := g1.cell 3
    have d4 := g1.cell 4
    have d5 := g1.cell 5
    have d6 := g1.cell 6
    simp at d0 d1 d2 d3 d4 d5 d6
    clear f0 g0 g1 k1
    have ks := Lib.hid kk
    go_wp2_with fail
    refine bodyPost_ret (Unpack_res _ _ w.heap.size Hd.zero false (put_hd (h := Hd.zero) f1 Hd.zero) rfl rfl) rfl ⟨?_, keep_hd ks.out (Nat.le_refl _) Hd.zero⟩
    have hh : ¬ isHead x := fun h => hg (HH.out.1 h).1
    rw [HO.out, if_neg hh, show decide (isHead x) = false from by simpa using hh]
end Go.Proofs.YtihmkkjmnbehbaaGreat.Hea
