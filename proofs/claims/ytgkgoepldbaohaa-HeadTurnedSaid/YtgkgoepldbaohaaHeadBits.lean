/- Heads as words: what the bit operations of Pack and Unpack come to, as sums and remainders. -/
import Derived.Laws.BitsAllLaws
import Derived.Test.YtgkgoepldbaohaaWMore
namespace Go.Proofs.Ytgkgoepldbaohaa.HB
open Go.RowKit Go.Proofs.YtgkgoepldbaohaaW.PrintMore

theorem or_join (i : Nat) (a b : Int) (h1 : 0 ≤ a) (h2 : a < (2 ^ i : Nat)) (h3 : 0 ≤ b) (h4 : b.toNat % 2 ^ i = 0) (ha : a < 18446744073709551616) (hb : b < 18446744073709551616) : bits .or .u64 a b = a + b := by
  rw [u64_or a b h1 ha h3 hb, Nat.or_comm, nat_join i b.toNat a.toNat h4 (by omega)]
  omega

theorem and_16 (a : Int) (h1 : 0 ≤ a) (h2 : a < 18446744073709551616) : bits .and .u64 a 65535 = a % 65536 := by
  rw [u64_and a 65535 h1 h2 (by omega) (by omega)]
  have := nat_mask16 a.toNat
  rw [show (65535 : Int).toNat = 65535 from rfl, this]
  omega
theorem and_8 (a : Int) (h1 : 0 ≤ a) (h2 : a < 18446744073709551616) : bits .and .u64 a 255 = a % 256 := by
  rw [u64_and a 255 h1 h2 (by omega) (by omega)]
  rw [show (255 : Int).toNat = 255 from rfl, nat_mask8]
  omega
theorem and_1 (a : Int) (h1 : 0 ≤ a) (h2 : a < 18446744073709551616) : bits .and .u64 a 1 = a % 2 := by
  rw [u64_and a 1 h1 h2 (by omega) (by omega)]
  rw [show (1 : Int).toNat = 1 from rfl, nat_mask1]
  omega

/-- A head's word, as a sum. -/
def word (a0 a1 a2 a3 : Int) (g n o : Bool) : Int :=
  17592186044416 + a0 + 65536 * a1 + 4294967296 * a2 + 1099511627776 * a3 + (if g then 2199023255552 else 0) + (if n then 4398046511104 else 0) + (if o then 8796093022208 else 0)
def good (a0 a1 a2 a3 : Int) : Prop := 0 ≤ a0 ∧ a0 ≤ 64 ∧ 0 ≤ a1 ∧ a1 ≤ a0 ∧ 0 ≤ a2 ∧ a2 ≤ 7 ∧ 0 ≤ a3 ∧ a3 ≤ 1
instance (a0 a1 a2 a3 : Int) : Decidable (good a0 a1 a2 a3) := by unfold good; infer_instance

theorem word_bound {a0 a1 a2 a3 : Int} {g n o : Bool} (h : good a0 a1 a2 a3) : 17592186044416 ≤ word a0 a1 a2 a3 g n o ∧ word a0 a1 a2 a3 g n o < 35184372088832 := by
  unfold good at h
  unfold word
  cases g <;> cases n <;> cases o <;> simp <;> omega

theorem word_unpack {a0 a1 a2 a3 : Int} {g n o : Bool} (h : good a0 a1 a2 a3) :
    word a0 a1 a2 a3 g n o % 65536 = a0 ∧ word a0 a1 a2 a3 g n o / 65536 % 65536 = a1 ∧ word a0 a1 a2 a3 g n o / 4294967296 % 256 = a2 ∧ word a0 a1 a2 a3 g n o / 1099511627776 % 2 = a3 ∧
    (word a0 a1 a2 a3 g n o / 2199023255552 % 2 == 1) = g ∧ (word a0 a1 a2 a3 g n o / 4398046511104 % 2 == 1) = n ∧ (word a0 a1 a2 a3 g n o / 8796093022208 % 2 == 1) = o := by
  unfold good at h
  unfold word
  cases g <;> cases n <;> cases o <;> simp <;> (refine ⟨?_, ?_, ?_, ?_, ?_, ?_, ?_⟩ <;> omega)

theorem pack_word {a0 a1 a2 a3 g n o : Int} (h : good a0 a1 a2 a3) (hg : g = 0 ∨ g = 2199023255552) (hn : n = 0 ∨ n = 4398046511104) (ho : o = 0 ∨ o = 8796093022208) :
    Go.bits .or .u64 (Go.bits .or .u64 (Go.bits .or .u64 (Go.bits .or .u64 (Go.bits .or .u64 (Go.bits .or .u64 (Go.bits .or .u64 (IntKind.u64.wrap (a0)) (IntKind.u64.wrap ((IntKind.u64.wrap (a1)) * 65536))) (IntKind.u64.wrap ((IntKind.u64.wrap (a2)) * 4294967296))) (IntKind.u64.wrap ((IntKind.u64.wrap (a3)) * 1099511627776))) g) n) o) 17592186044416
      = 17592186044416 + a0 + 65536 * a1 + 4294967296 * a2 + 1099511627776 * a3 + g + n + o := by
  unfold good at h
  have e0 : IntKind.u64.wrap a0 = a0 := by rw [IntKind.wrap_u64]; omega
  have e1 : IntKind.u64.wrap (IntKind.u64.wrap a1 * 65536) = a1 * 65536 := by simp only [IntKind.wrap_u64]; omega
  have e2 : IntKind.u64.wrap (IntKind.u64.wrap a2 * 4294967296) = a2 * 4294967296 := by simp only [IntKind.wrap_u64]; omega
  have e3 : IntKind.u64.wrap (IntKind.u64.wrap a3 * 1099511627776) = a3 * 1099511627776 := by simp only [IntKind.wrap_u64]; omega
  rw [e0, e1, e2, e3]
  rw [or_join 16 a0 (a1 * 65536) (by omega) (by omega) (by omega) (by omega) (by omega) (by omega)]
  rw [or_join 32 (a0 + a1 * 65536) (a2 * 4294967296) (by omega) (by omega) (by omega) (by omega) (by omega) (by omega)]
  rw [or_join 40 (a0 + a1 * 65536 + a2 * 4294967296) (a3 * 1099511627776) (by omega) (by omega) (by omega) (by omega) (by omega) (by omega)]
  rw [or_join 41 _ g (by omega) (by omega) (by omega) (by omega) (by omega) (by omega)]
  rw [or_join 42 _ n (by omega) (by omega) (by omega) (by omega) (by omega) (by omega)]
  rw [or_join 43 _ o (by omega) (by omega) (by omega) (by omega) (by omega) (by omega)]
  rw [or_join 44 _ 17592186044416 (by omega) (by omega) (by omega) (by omega) (by omega) (by omega)]
  omega
end Go.Proofs.Ytgkgoepldbaohaa.HB
