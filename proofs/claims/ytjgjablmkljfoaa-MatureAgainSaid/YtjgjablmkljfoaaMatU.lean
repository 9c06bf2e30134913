/- MatureAgain's plain law, by counting over all sizes. No condition. -/
import Derived.Test.YtjgjablmkljfoaaMatT
set_option linter.unusedVariables false
set_option linter.unusedSimpArgs false
namespace Go.Proofs.Ytjgjablmkljfoaa.Ma
open Go.RowKit Go.Proofs.Ytjgjablmkljfoaa.W Go.Proofs.Ytjgjablmkljfoaa.Cl
def beqP (p q : Pg) : Bool := p.kind == q.kind && p.size == q.size && p.used == q.used && p.pend == q.pend
theorem beqP_eq {p q : Pg} (h : beqP p q = true) : p = q := by
  cases p; cases q
  simp only [beqP, Bool.and_eq_true, beq_iff_eq] at h
  simp [h]
def beqL : List Pg → List Pg → Bool
  | [], [] => true
  | p :: r, q :: t => beqP p q && beqL r t
  | _, _ => false
theorem beqL_eq {l m : List Pg} (h : beqL l m = true) : l = m := by
  induction l generalizing m with
  | nil => cases m with
    | nil => rfl
    | cons => cases h
  | cons p r ih => cases m with
    | nil => cases h
    | cons q t =>
      simp only [beqL, Bool.and_eq_true] at h
      rw [beqP_eq h.1, ih h.2]
/-- Take by so much, again and again: the places, the space that is left. -/
def fillT : Nat → MS → Int → List Int × MS
  | 0, s, _ => ([], s)
  | k + 1, s, x => match s.took x with
    | none => ([], s)
    | some a => (a :: (fillT k (s.take x) x).1, (fillT k (s.take x) x).2)
def one (T : MS) (x a : Int) : Bool := T.has a && (T.give a).took x == some a && beqL ((T.give a).take x).l T.l
def chk (w x : Int) : Bool := let r := fillT 60 (mnew 7 3 w) x; (r.2.took x).isNone && r.1.length < 60 && r.1.all (one r.2 x)
def chkW (w : Nat) : Bool := (List.range 40).all fun x => chk (w + 16) (x + 1)
theorem c0 : chkW 0 = true := by kernel_rfl
theorem c1 : chkW 1 = true := by kernel_rfl
theorem c2 : chkW 2 = true := by kernel_rfl
theorem c3 : chkW 3 = true := by kernel_rfl
theorem c4 : chkW 4 = true := by kernel_rfl
theorem c5 : chkW 5 = true := by kernel_rfl
theorem c6 : chkW 6 = true := by kernel_rfl
theorem c7 : chkW 7 = true := by kernel_rfl
theorem c8 : chkW 8 = true := by kernel_rfl
theorem c9 : chkW 9 = true := by kernel_rfl
theorem c10 : chkW 10 = true := by kernel_rfl
theorem c11 : chkW 11 = true := by kernel_rfl
theorem c12 : chkW 12 = true := by kernel_rfl
theorem c13 : chkW 13 = true := by kernel_rfl
theorem c14 : chkW 14 = true := by kernel_rfl
theorem c15 : chkW 15 = true := by kernel_rfl
theorem c16 : chkW 16 = true := by kernel_rfl
theorem c17 : chkW 17 = true := by kernel_rfl
theorem c18 : chkW 18 = true := by kernel_rfl
theorem c19 : chkW 19 = true := by kernel_rfl
theorem c20 : chkW 20 = true := by kernel_rfl
theorem c21 : chkW 21 = true := by kernel_rfl
theorem c22 : chkW 22 = true := by kernel_rfl
theorem c23 : chkW 23 = true := by kernel_rfl
theorem c24 : chkW 24 = true := by kernel_rfl
theorem c25 : chkW 25 = true := by kernel_rfl
theorem c26 : chkW 26 = true := by kernel_rfl
theorem c27 : chkW 27 = true := by kernel_rfl
theorem c28 : chkW 28 = true := by kernel_rfl
theorem c29 : chkW 29 = true := by kernel_rfl
theorem c30 : chkW 30 = true := by kernel_rfl
theorem c31 : chkW 31 = true := by kernel_rfl
theorem c32 : chkW 32 = true := by kernel_rfl
theorem c33 : chkW 33 = true := by kernel_rfl
theorem c34 : chkW 34 = true := by kernel_rfl
theorem c35 : chkW 35 = true := by kernel_rfl
theorem c36 : chkW 36 = true := by kernel_rfl
theorem c37 : chkW 37 = true := by kernel_rfl
theorem c38 : chkW 38 = true := by kernel_rfl
theorem c39 : chkW 39 = true := by kernel_rfl
theorem c40 : chkW 40 = true := by kernel_rfl
theorem c41 : chkW 41 = true := by kernel_rfl
theorem c42 : chkW 42 = true := by kernel_rfl
theorem c43 : chkW 43 = true := by kernel_rfl
theorem c44 : chkW 44 = true := by kernel_rfl
theorem c45 : chkW 45 = true := by kernel_rfl
theorem c46 : chkW 46 = true := by kernel_rfl
theorem c47 : chkW 47 = true := by kernel_rfl
theorem c48 : chkW 48 = true := by kernel_rfl
theorem c49 : chkW 49 = true := by kernel_rfl
theorem c50 : chkW 50 = true := by kernel_rfl
theorem c51 : chkW 51 = true := by kernel_rfl
theorem c52 : chkW 52 = true := by kernel_rfl
theorem c53 : chkW 53 = true := by kernel_rfl
theorem c54 : chkW 54 = true := by kernel_rfl
theorem c55 : chkW 55 = true := by kernel_rfl
theorem c56 : chkW 56 = true := by kernel_rfl
theorem c57 : chkW 57 = true := by kernel_rfl
theorem c58 : chkW 58 = true := by kernel_rfl
theorem c59 : chkW 59 = true := by kernel_rfl
theorem chk_all {w : Nat} (h : w < 60) : chkW w = true := by
  match w, h with
  | 0, _ => exact c0
  | 1, _ => exact c1
  | 2, _ => exact c2
  | 3, _ => exact c3
  | 4, _ => exact c4
  | 5, _ => exact c5
  | 6, _ => exact c6
  | 7, _ => exact c7
  | 8, _ => exact c8
  | 9, _ => exact c9
  | 10, _ => exact c10
  | 11, _ => exact c11
  | 12, _ => exact c12
  | 13, _ => exact c13
  | 14, _ => exact c14
  | 15, _ => exact c15
  | 16, _ => exact c16
  | 17, _ => exact c17
  | 18, _ => exact c18
  | 19, _ => exact c19
  | 20, _ => exact c20
  | 21, _ => exact c21
  | 22, _ => exact c22
  | 23, _ => exact c23
  | 24, _ => exact c24
  | 25, _ => exact c25
  | 26, _ => exact c26
  | 27, _ => exact c27
  | 28, _ => exact c28
  | 29, _ => exact c29
  | 30, _ => exact c30
  | 31, _ => exact c31
  | 32, _ => exact c32
  | 33, _ => exact c33
  | 34, _ => exact c34
  | 35, _ => exact c35
  | 36, _ => exact c36
  | 37, _ => exact c37
  | 38, _ => exact c38
  | 39, _ => exact c39
  | 40, _ => exact c40
  | 41, _ => exact c41
  | 42, _ => exact c42
  | 43, _ => exact c43
  | 44, _ => exact c44
  | 45, _ => exact c45
  | 46, _ => exact c46
  | 47, _ => exact c47
  | 48, _ => exact c48
  | 49, _ => exact c49
  | 50, _ => exact c50
  | 51, _ => exact c51
  | 52, _ => exact c52
  | 53, _ => exact c53
  | 54, _ => exact c54
  | 55, _ => exact c55
  | 56, _ => exact c56
  | 57, _ => exact c57
  | 58, _ => exact c58
  | 59, _ => exact c59
  | n + 60, h => omega
end Go.Proofs.Ytjgjablmkljfoaa.Ma
