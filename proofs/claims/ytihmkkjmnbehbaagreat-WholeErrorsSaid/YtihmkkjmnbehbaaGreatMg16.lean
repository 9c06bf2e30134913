/- Texts of the whole heap, joined: WhA WhB WhC. No condition beside those that each lemma names. -/
import Derived.Test.YtihmkkjmnbehbaaGreatMg07
import Derived.Test.YtihmkkjmnbehbaaGreatMg10
import Derived.Test.YtihmkkjmnbehbaaGreatMg11
import Derived.Test.YtihmkkjmnbehbaaGreatMg12
import Derived.Test.YtihmkkjmnbehbaaGreatMg13
import Derived.Test.YtihmkkjmnbehbaaGreatMg15
/- The whole heap as a record, and what its functions do to it: plain functions. No condition. -/
set_option linter.unusedVariables false
set_option linter.unusedSimpArgs false
namespace Go.Proofs.YtihmkkjmnbehbaaGreat.Wh
open Go.RowKit Go.Proofs.YtihmkkjmnbehbaaGreat.W
abbrev Hd := Hea.Hd
/-- How a heap is made. -/
structure CF where
  h : Int
  n : Int
  p : Int
  w : Int
  c : Int
  b : Int
  s : Int
  t : Int
  l : Int
  mi : Int
  ma : Int
  mia : Int
  maa : Int
/-- What a heap has done. -/
structure Dn where
  al : Int
  wo : Int
  pr : Int
  mi : Int
  ma : Int
  yo : Int
  ol : Int
  fr : Int
/-- A heap. -/
structure CS where
  c : CF
  ws : List Int
  y : Bp.Sp
  o : Ma.MS
  r : Re.RS
  gm : Int
  gl : List Int
  gz : Bool
  tb : List Int
  par : Int
  ph : Int
  mv : Bool
  scan : Int
  cop : Int
  look : Int
  row : List Int
  d : Dn
def CS.hd (S : CS) (a : Int) : Hd := Ob.hdAt S.ws a
def CS.ref (S : CS) (a n : Int) : Int := wrap64 (Ob.ldW S.ws (Ob.placeOf a n))
def CS.now (S : CS) (a : Int) : Int := if a = 0 ∨ S.y.isFrom a = false then a else if Ob.okAt a then wrap64 (Ob.ldW S.ws (a + 1)) else 0
def shW (ws : List Int) (a : Int) (h : Hd) : List Int := if h.good then Ob.stW ws a h.word else ws
def CS.setHd (S : CS) (a : Int) (h : Hd) : CS := { S with ws := shW S.ws a h }
/-- Where the nursery's next words are. -/
def yAt (y : Bp.Sp) (n : Int) : Int := if y.fits n then y.here + y.used else 0
def CS.place (S : CS) (words age : Int) : (Int × Bool) × CS :=
  if S.c.t ≤ age then (match S.o.took words with
    | some a => ((a, true), { S with o := S.o.take words })
    | none => ((yAt S.y words, false), { S with y := S.y.take words }))
  else ((yAt S.y words, false), { S with y := S.y.take words })
def age1 (h : Hd) : Hd := { h with age := if h.age + 1 < 7 then h.age + 1 else 7 }
/-- The head of what has moved. -/
def mvHd (S : CS) (h : Hd) (old : Bool) : Hd := if S.ph = 1 then { age1 h with old := old } else { age1 h with old := old, par := S.par, grey := false }
def CS.move (S : CS) (a : Int) : Int × CS :=
  if a = 0 ∨ S.y.isFrom a = false then (a, S) else
  if S.now a ≠ a then (S.now a, S) else
  let h := S.hd a
  let words := Ob.wordsOf (age1 h)
  let r := S.place words (age1 h).age
  let S1 := r.2
  let S2 : CS := { S1 with ws := Ob.mvW S1.ws a r.1.1 (mvHd S h r.1.2), cop := wrap64 (S1.cop + words) }
  (r.1.1, if r.1.2 then { S2 with d := { S2.d with pr := wrap64 (S2.d.pr + words) }, row := S2.row ++ [r.1.1] } else S2)
def CS.push (S : CS) (a : Int) : CS := { S with gl := Gy.putL S.gl S.gm a, gz := S.gz || decide (S.gm ≤ (S.gl.length : Int)) }
def CS.mark (S : CS) (a : Int) : CS :=
  if a = 0 ∨ S.ph ≠ 1 then S else
  let b := S.now a
  let h := S.hd b
  if h.par = S.par then S else (S.setHd b { h with par := S.par, grey := true }).push b
def CS.note (S : CS) (a : Int) : CS :=
  if a = 0 then S else
  let h := S.hd a
  if h.old && !h.noted then { S.setHd a { h with noted := true } with r := S.r.add a } else S
/-- Calls of a program on objects. -/
def CS.get (S : CS) (h : Int) : Int × Int := Tab.gets S.tb h
def CS.set (S : CS) (h x : Int) : CS := { S with tb := Tab.sets S.tb h x }
def CS.room (S : CS) (words : Int) : Bool := decide ((if S.mv then wrap64 (S.y.left - S.cop) else 0) ≤ S.y.room - words)
def CS.shape (S : CS) (p s : Int) : Bool := decide (0 ≤ p) && (decide (0 ≤ s) && (decide (p ≤ S.c.l) && decide (s ≤ S.c.l - p)))
def CS.make (S : CS) (h p s : Int) : Int × CS :=
  if (S.get h).2 ≠ 0 then ((S.get h).2, S) else
  if S.shape p s = false then (6, S) else
  let x : Hd := ⟨p + s, p, 0, S.par, false, false, false⟩
  let words := Ob.wordsOf x
  if S.room words = false then (7, S) else
  let a := yAt S.y words
  let S1 : CS := { S with y := S.y.take words, ws := Ob.mkW S.ws a x, d := { S.d with al := wrap64 (S.d.al + 1), wo := wrap64 (S.d.wo + words) } }
  (Tab.setE S1.tb h, S1.set h a)
/-- What a handle holds: where, its head, an error. -/
def CS.obj (S : CS) (h : Int) : Int × Hd × Int :=
  if (S.get h).2 ≠ 0 then (0, Hea.Hd.zero, (S.get h).2) else
  if (S.get h).1 = 0 then (0, Hea.Hd.zero, 4) else ((S.get h).1, S.hd (S.get h).1, 0)
def CS.getF (S : CS) (t h n : Int) : Int × CS :=
  let o := S.obj h
  if o.2.2 ≠ 0 then (o.2.2, S) else
  if (S.get t).2 ≠ 0 then ((S.get t).2, S) else
  if n < 0 ∨ o.2.1.ptrs ≤ n then (5, S) else
  let r := S.move (S.ref o.1 n)
  let S2 := r.2.mark r.1
  (Tab.setE S2.tb t, S2.set t r.1)
def CS.setF (S : CS) (h n f : Int) : Int × CS :=
  let o := S.obj h
  if o.2.2 ≠ 0 then (o.2.2, S) else
  if (S.get f).2 ≠ 0 then ((S.get f).2, S) else
  if n < 0 ∨ o.2.1.ptrs ≤ n then (5, S) else
  let x := (S.get f).1
  let S1 : CS := { S with ws := Ob.stW S.ws (Ob.placeOf o.1 n) (IntKind.u64.wrap x) }
  (0, if S1.y.isIn x then S1.note o.1 else S1)
def CS.readF (S : CS) (h n : Int) : Int × Int :=
  let o := S.obj h
  if o.2.2 ≠ 0 then (0, o.2.2) else
  if n < 0 ∨ o.2.1.size - o.2.1.ptrs ≤ n then (0, 5) else
  (Ob.ldW S.ws (Ob.placeOf o.1 (o.2.1.ptrs + n)), Ob.erW S.ws (Ob.placeOf o.1 (o.2.1.ptrs + n)))
def CS.writeF (S : CS) (h n v : Int) : Int × CS :=
  let o := S.obj h
  if o.2.2 ≠ 0 then (o.2.2, S) else
  if n < 0 ∨ o.2.1.size - o.2.1.ptrs ≤ n then (5, S) else
  (Ob.erW S.ws (Ob.placeOf o.1 (o.2.1.ptrs + n)), { S with ws := Ob.stW S.ws (Ob.placeOf o.1 (o.2.1.ptrs + n)) v })
def CS.clearH (S : CS) (h : Int) : Int × CS := (Tab.setE S.tb h, S.set h 0)
def CS.copyH (S : CS) (t f : Int) : Int × CS := if (S.get f).2 ≠ 0 then ((S.get f).2, S) else (Tab.setE S.tb t, S.set t (S.get f).1)
def CS.sameH (S : CS) (a b : Int) : Bool × Int := if (S.get a).2 ≠ 0 ∨ (S.get b).2 ≠ 0 then (false, 3) else (decide ((S.get a).1 = (S.get b).1), 0)
def CS.nilH (S : CS) (h : Int) : Bool × Int := (decide ((S.get h).2 = 0) && decide ((S.get h).1 = 0), (S.get h).2)
def CS.shapeH (S : CS) (h : Int) : Int × Int × Int := if (S.obj h).2.2 ≠ 0 then (0, 0, (S.obj h).2.2) else ((S.obj h).2.1.ptrs, (S.obj h).2.1.size - (S.obj h).2.1.ptrs, 0)
/-- The minor cycle. -/
def CS.moveT : List Int → Nat → CS → CS
  | [], _, S => S
  | a :: r, h, S => CS.moveT r (h + 1) ((S.move a).2.set h (S.move a).1)
def CS.minStart (S : CS) : Bool × CS :=
  if S.mv then (false, S) else
  if 0 < S.y.left then (false, { S with y := S.y.flip }) else
  let S1 : CS := { S with y := S.y.flip, r := S.r.flip, mv := true, cop := 0, row := [], scan := S.y.flip.here }
  (true, CS.moveT S1.tb 0 S1)
/-- References of an object, from the n-th on, k of them; is one young? -/
def CS.thr (a : Int) : Nat → Int → Bool → CS → Bool × CS
  | 0, _, y, S => (y, S)
  | k + 1, n, y, S =>
    let x := S.ref a n
    let m := S.move x
    let S2 : CS := if m.1 ≠ x then { m.2 with ws := Ob.stW m.2.ws (Ob.placeOf a n) (IntKind.u64.wrap m.1) } else m.2
    CS.thr a k (n + 1) (y || S2.y.isIn m.1) S2
def CS.through (S : CS) (a : Int) : Int × CS :=
  let h := S.hd a
  let r := CS.thr a h.ptrs.toNat 0 false S
  (Ob.wordsOf h, if r.1 then r.2.note a else r.2)
def CS.noted (S : CS) (a : Int) : Int × CS :=
  if S.o.has a = false then (0, S) else
  if (S.hd a).noted = false then (0, S) else
  (S.setHd a { S.hd a with noted := false }).through a
def CS.partL : List Int → Int → CS → Int × CS
  | [], n, S => (n, S)
  | a :: r, n, S => CS.partL r (n + (S.noted a).1) (S.noted a).2
def CS.part (S : CS) (f t : Int) : Int × CS := CS.partL (Ma.stL S.o.f S.o.w f t S.o.l 0) 0 S
def CS.finish (S : CS) : CS :=
  let L := (S.gl.map S.now).filter (fun t => !S.y.isFrom t)
  { S with gl := Gy.got L S.gm L.length, gz := S.gz || decide (S.gm < (L.length : Int)), y := S.y.drop, mv := false, cop := 0, d := { S.d with mi := wrap64 (S.d.mi + 1) } }
def CS.minStep (S : CS) : (Int × Bool) × CS :=
  if S.mv = false then ((0, false), S) else
  match S.row with
  | a :: r =>
    let S1 : CS := { S with row := r }
    if S1.o.has a = false then ((2, true), S1) else (((S1.through a).1 + 1, true), (S1.through a).2)
  | [] =>
    let q := S.r.said
    let S1 : CS := { S with r := S.r.next }
    if q.2.2 then (if q.2.1 then (((S1.part q.1.1 q.1.2).1 + 1, true), (S1.part q.1.1 q.1.2).2) else (((S1.noted q.1.1).1 + 1, true), (S1.noted q.1.1).2))
    else if S1.scan < S1.y.here + S1.y.used then (((S1.through S1.scan).1, true), { (S1.through S1.scan).2 with scan := wrap64 ((S1.through S1.scan).2.scan + (S1.through S1.scan).1) })
    else ((2, false), S1.finish)
def CS.runG (step : CS → (Int × Bool) × CS) (work : Int) : Nat → Int → CS → Int × CS
  | 0, done, S => (done, S)
  | k + 1, done, S => if done < work then (if (step S).1.2 then CS.runG step work k (done + (step S).1.1) (step S).2 else (done + (step S).1.1, (step S).2)) else (done, S)
def CS.minRun (S : CS) (work : Int) : Int × CS := CS.runG CS.minStep work work.toNat 0 S
/-- The major cycle. -/
def CS.markL : List Int → CS → CS
  | [], S => S
  | a :: r, S => CS.markL r (S.mark a)
def CS.majStart (S : CS) : Bool × CS :=
  if S.ph ≠ 0 then (false, S) else
  (true, CS.markL S.tb { S with ph := 1, par := wrap64 (1 - S.par), look := -1 })
def CS.markF (a : Int) : Nat → Int → CS → CS
  | 0, _, S => S
  | k + 1, n, S => CS.markF a k (n + 1) (S.mark (S.ref a n))
def CS.mthrough (S : CS) (a : Int) : Int × CS :=
  let h := S.hd a
  if h.grey = false then (1, S) else
  (Ob.wordsOf h, CS.markF a h.ptrs.toNat 0 (S.setHd a { h with grey := false }))
def CS.half (e : Int) : Nat → Int → Int → CS → Int × CS
  | 0, _, done, S => (done, S)
  | k + 1, a, done, S => if a < e then
      (let h := S.hd a
       let r := if S.now a = a ∧ h.grey = true then (done + (S.mthrough a).1, (S.mthrough a).2) else (done, S)
       CS.half e k (a + Ob.wordsOf h) (r.1 + 1) r.2) else (done, S)
def CS.lost (S : CS) : Int × CS :=
  let S1 : CS := { S with gz := false, look := 0 }
  let e1 := S1.y.here + S1.y.used
  let r1 := CS.half e1 (e1 - S1.y.here).toNat S1.y.here 0 S1
  let e2 := r1.2.y.there + r1.2.y.left
  let r2 := CS.half e2 (e2 - r1.2.y.there).toNat r1.2.y.there 0 r1.2
  (r1.1 + r2.1 + 1, r2.2)
def CS.pageL : List Int → Int → CS → Int × CS
  | [], d, S => (d, S)
  | a :: r, d, S => if (S.hd a).grey then CS.pageL r (d + (S.mthrough a).1 + 1) (S.mthrough a).2 else CS.pageL r (d + 1) S
/-- Where a page begins, and ends. -/
def pgF (o : Ma.MS) (x : Int) : Int := if 0 ≤ x ∧ x < o.l.length then o.f + x * o.w else 0
def pgT (o : Ma.MS) (x : Int) : Int := if 0 ≤ x ∧ x < o.l.length then o.f + x * o.w + o.w else 0
def CS.page (S : CS) : Int × CS :=
  let r := CS.pageL (Ma.stL S.o.f S.o.w (pgF S.o S.look) (pgT S.o S.look) S.o.l 0) 1 S
  (r.1, { r.2 with look := if r.2.c.p ≤ r.2.look + 1 then -1 else r.2.look + 1 })
def CS.markS (S : CS) : Int × CS :=
  if Gy.some0 S.gl then
    (let S1 : CS := { S with gl := S.gl.take (S.gl.length - 1) }
     S1.mthrough (S1.now (Gy.last0 S.gl)))
  else if 0 ≤ S.look then S.page
  else if S.gz then S.lost
  else (1, { S with ph := 2, o := S.o.pend })
def CS.sweepL : List Int → CS → CS
  | [], S => S
  | a :: r, S => CS.sweepL r (if (S.hd a).par ≠ S.par then { S with o := S.o.give a } else S)
def CS.sweep (S : CS) : (Int × Bool) × CS :=
  match Ma.pn S.o.l with
  | none => ((1, false), { S with ph := 0, d := { S.d with ma := wrap64 (S.d.ma + 1) } })
  | some n =>
    let L := Ma.stL S.o.f S.o.w (pgF S.o n) (pgT S.o n) S.o.l 0
    let S1 := CS.sweepL L S
    ((1 + (L.length : Int), true), { S1 with o := S1.o.done n })
def CS.majStep (S : CS) : (Int × Bool) × CS :=
  if S.ph = 0 then ((0, false), S) else
  if S.ph = 1 then ((S.markS.1, true), S.markS.2) else S.sweep
def CS.majRun (S : CS) (work : Int) : Int × CS := CS.runG CS.majStep work work.toNat 0 S
/-- The heap's calls. -/
def mm (x lo hi : Int) : Int := if lo < (if hi < x then hi else x) then (if hi < x then hi else x) else lo
def quant (w t : Int) : Int := mm w 0 1048576 * mm t 0 64
def CS.tax (S : CS) (words : Int) : CS :=
  let S1 := if S.mv = false ∧ S.c.mia ≤ S.y.used then S.minStart.2 else S
  let S2 := if S1.ph = 0 ∧ (Ma.freeN S1.o.l : Int) ≤ S1.c.maa then S1.majStart.2 else S1
  let S3 := (S2.minRun (quant words S2.c.mi)).2
  (S3.majRun (quant words S3.c.ma)).2
/-- An answer: an error, yes, a number, a word. -/
structure An where
  e : Int
  yes : Bool
  n : Int
  v : Int
def erA (e : Int) : An := ⟨e, false, 0, 0⟩
def CS.doMake (S : CS) (x : A5) : An × CS :=
  let S1 := if 0 ≤ x.b ∧ 0 ≤ x.c ∧ x.b ≤ S.c.l ∧ x.c ≤ S.c.l - x.b then S.tax (x.b + x.c + 2) else S
  (erA (S1.make x.a x.b x.c).1, (S1.make x.a x.b x.c).2)
def CS.doIdle (S : CS) (x : A5) : An × CS :=
  let work := mm x.b 0 1048576
  if x.a = 0 then (⟨0, false, (S.minRun work).1, 0⟩, (S.minRun work).2) else
  if x.a = 1 then (⟨0, false, (S.majRun work).1, 0⟩, (S.majRun work).2) else (erA 1, S)
def CS.doForce (S : CS) (x : A5) : An × CS :=
  if x.a = 0 then (⟨0, S.minStart.1, 0, 0⟩, S.minStart.2) else
  if x.a = 1 then (⟨0, S.majStart.1, 0, 0⟩, S.majStart.2) else (erA 1, S)
def CS.asks (S : CS) (x : A5) : An :=
  if x.kind = 4 then ⟨(S.readF x.a x.b).2, false, 0, (S.readF x.a x.b).1⟩ else
  if x.kind = 8 then ⟨(S.sameH x.a x.b).2, (S.sameH x.a x.b).1, 0, 0⟩ else
  if x.kind = 9 then ⟨(S.nilH x.a).2, (S.nilH x.a).1, 0, 0⟩ else
  if x.kind = 10 then ⟨(S.shapeH x.a).2.2, false, (S.shapeH x.a).1, IntKind.u64.wrap (S.shapeH x.a).2.1⟩ else erA 1
def pr1 (r : Int × CS) : An × CS := (erA r.1, r.2)
def CS.doS (S : CS) (x : A5) : An × CS :=
  if x.kind = 1 then S.doMake x else
  if x.kind = 2 then pr1 (S.getF x.a x.b x.c) else
  if x.kind = 3 then pr1 (S.setF x.a x.b x.c) else
  if x.kind = 5 then pr1 (S.writeF x.a x.b x.v) else
  if x.kind = 6 then pr1 (S.clearH x.a) else
  if x.kind = 7 then pr1 (S.copyH x.a x.b) else
  if x.kind = 11 then S.doIdle x else
  if x.kind = 12 then S.doForce x else (S.asks x, S)
/-- A heap that is new. -/
def CF.mat (c : CF) : Int := 1 + 2 * c.n
def CF.words (c : CF) : Int := c.mat + c.p * c.w
def cnew (c : CF) : CS :=
  { c := c, ws := List.replicate (c.words).toNat 0, y := ⟨1, 0, 1 + c.n, 0, c.n, false⟩, o := Ma.mnew c.mat c.p c.w,
    r := ⟨c.mat, c.p * c.w, c.c, c.b, [], (Re.Cd.none_ c.mat (c.p * c.w) c.c).m, [], (Re.Cd.none_ c.mat (c.p * c.w) c.c).m⟩,
    gm := c.s, gl := [], gz := false, tb := List.replicate c.h.toNat 0, par := 0, ph := 0, mv := false, scan := 0, cop := 0, look := -1, row := [], d := ⟨0, 0, 0, 0, 0, 0, 0, 0⟩ }
end Go.Proofs.YtihmkkjmnbehbaaGreat.Wh
/- The whole heap as parts of memory. No condition. -/
set_option linter.unusedVariables false
set_option linter.unusedSimpArgs false
namespace Go.Proofs.YtihmkkjmnbehbaaGreat.Wh
open Go.RowKit Go.Proofs.YtihmkkjmnbehbaaGreat.W
theorem TRep_bound {w : World} {ok : Nat → Prop} {b : Nat} {L : List Int} (h : Tab.TRep w ok b L) : Tab.TRep w (fun i => ok i ∧ i < w.heap.size) b L := by
  obtain ⟨g, ob, og, hl, hb, hg⟩ := h
  exact ⟨g, ⟨ob, hb.lt⟩, ⟨og, hg.lt⟩, hl, hb, hg⟩
theorem SL_bound {w : World} {ok : Nat → Prop} {k : IntKind} {v : Value} {l : List Int} (h : SL w ok k v l) : SL w (fun i => ok i ∧ i < w.heap.size) k v l := by
  obtain ⟨A, c, e, hl, hc⟩ := h
  exact ⟨A, c, e, hl, fun h0 => by obtain ⟨b, o, hA, hb, hlt, r⟩ := hc h0; exact ⟨b, o, hA, ⟨hb, hlt⟩, hlt, r⟩⟩
def Oba (b : Nat) (ws : List Int) : Pr := ⟨fun w o => Ob.OA w o b ws, fun h k hn => h.keep k hn, fun h hs => h.mono hs, fun h => h.bound⟩
def Bmp (b : Nat) (s : Bp.Sp) : Pr := ⟨fun w o => Bp.SRep w o b s, fun h k hn => h.keep k hn, fun h hs => h.mono hs, fun h => h.bound⟩
def Tbl (b : Nat) (L : List Int) : Pr := ⟨fun w o => Tab.TRep w o b L, fun h k hn => h.keep k hn, fun h hs => h.mono hs, fun h => TRep_bound h⟩
/-- A slice that reads as a list. -/
def SLp (v : Value) (L : List Int) : Pr := ⟨fun w o => SL w o .i64 v L, fun h k hn => h.keep k hn, fun h hs => h.mono hs, fun h => SL_bound h⟩
abbrev pt (b : Nat) : Value := .pointer (some ⟨b, 0, none⟩)
/-- Where a heap's parts lie. -/
structure CK where
  c : Nat
  a : Nat
  y : Nat
  o : Nat
  r : Nat
  g : Nat
  t : Nat
  A : Option Addr
  n : Nat
abbrev i6 (x : Int) : Value := .int .i64 x
def ccells (k : CK) (S : CS) : Array Value :=
  #[i6 S.c.h, i6 S.c.n, i6 S.c.p, i6 S.c.w, i6 S.c.c, i6 S.c.b, i6 S.c.s, i6 S.c.t, i6 S.c.l, i6 S.c.mi, i6 S.c.ma, i6 S.c.mia, i6 S.c.maa,
    pt k.a, pt k.y, pt k.o, pt k.r, pt k.g, pt k.t, i6 S.par, i6 S.ph, .bool S.mv, i6 S.scan, i6 S.cop, i6 S.look, .slice k.A S.row.length k.n,
    i6 S.d.al, i6 S.d.wo, i6 S.d.pr, i6 S.d.mi, i6 S.d.ma, i6 S.d.yo, i6 S.d.ol, i6 S.d.fr]
def cparts (k : CK) (S : CS) : List Pr := [blkP k.c 57 (ccells k S), Oba k.a S.ws, Bmp k.y S.y, Ma.Mat k.o S.o, Re.Rms k.r S.r, Gy.Stk k.g S.gm S.gl S.gz, Tbl k.t S.tb, rowP 3 k.A S.row.length k.n (S.row.map (Value.int .i64))]
section
variable {W w : World} {oo : Nat → Prop} {k : CK} {S : CS} {l : List Pr} {F : FuncId} {args : Array Value}
theorem c_blk (h : SepO W oo w (cparts k S ++ l)) : Blk w k.c 57 (ccells k S) := h.blk 0 rfl
/-- A call that reads the arena alone. -/
theorem oba_read {v : Value} (h : SepO W oo w (cparts k S ++ l)) (hc : ∀ o, Ob.OA w o k.a S.ws → Calls Tryz.prog F args w fun e w' => e = .returned v ∧ Ob.OA w' o k.a S.ws ∧ Keep o w w') : Calls Tryz.prog F args w fun e w' => e = .returned v ∧ SepO W oo w' (cparts k S ++ l) := by
  obtain ⟨o, hp, _, hup⟩ := h.open0 1 rfl
  refine (hc o hp).mono ?_
  rintro e w' ⟨rfl, hr, hk⟩
  exact ⟨rfl, hup w' (Oba k.a S.ws) hr hk⟩
theorem c_at (h : SepO W oo w (cparts k S ++ l)) : (w.cell? ⟨k.c, 13, none⟩ = some (pt k.a) ∧ w.cell? ⟨k.c, 14, none⟩ = some (pt k.y) ∧ w.cell? ⟨k.c, 15, none⟩ = some (pt k.o) ∧ w.cell? ⟨k.c, 16, none⟩ = some (pt k.r) ∧ w.cell? ⟨k.c, 17, none⟩ = some (pt k.g) ∧ w.cell? ⟨k.c, 18, none⟩ = some (pt k.t)) ∧
    (w.cell? ⟨k.c, 19, none⟩ = some (i6 S.par) ∧ w.cell? ⟨k.c, 20, none⟩ = some (i6 S.ph) ∧ w.cell? ⟨k.c, 21, none⟩ = some (.bool S.mv) ∧ w.cell? ⟨k.c, 22, none⟩ = some (i6 S.scan) ∧ w.cell? ⟨k.c, 23, none⟩ = some (i6 S.cop) ∧ w.cell? ⟨k.c, 24, none⟩ = some (i6 S.look) ∧ w.cell? ⟨k.c, 25, none⟩ = some (.slice k.A S.row.length k.n)) ∧ k.c < w.heap.size ∧ (∀ j, w.frozen? ⟨k.c, j, none⟩ = false) := by
  have hb := c_blk h
  have e : ∀ j, w.cell? ⟨k.c, j, none⟩ = (ccells k S)[j]? := hb.cell
  exact ⟨⟨e 13, e 14, e 15, e 16, e 17, e 18⟩, ⟨e 19, e 20, e 21, e 22, e 23, e 24, e 25⟩, hb.lt, hb.frozen⟩
theorem c_last {P : Pr} : (cparts k S ++ (l ++ [P]))[8 + l.length]? = some P := by
  rw [List.getElem?_append_right (by simp [cparts]), List.getElem?_append_right (by simp [cparts])]
  simp [cparts]
theorem c_add (h : SepO W oo w (cparts k S ++ l)) (t : TypeId) (cs : Array Value) : SepO W oo (w.alloc (.cells cs t)) (cparts k S ++ (l ++ [blkP w.heap.size t cs])) := by
  rw [← List.append_assoc]; exact h.new_blk t cs
theorem c_drop {m : List Pr} (h : SepO W oo w (cparts k S ++ (l ++ m))) : SepO W oo w (cparts k S ++ l) := by
  rw [← List.append_assoc] at h; exact h.first
theorem put7 {L : List Pr} {i z : Nat} {t : TypeId} {a0 a1 a2 a3 a4 a5 a6 : Value} (h : SepO W oo w L) (hi : L[i]? = some (blkP z t #[a0, a1, a2, a3, a4, a5, a6])) (v0 v1 v2 v3 v4 v5 v6 : Value) :
    SepO W oo (((((((w.setCell ⟨z, 0, none⟩ v0).setCell ⟨z, 1, none⟩ v1).setCell ⟨z, 2, none⟩ v2).setCell ⟨z, 3, none⟩ v3).setCell ⟨z, 4, none⟩ v4).setCell ⟨z, 5, none⟩ v5).setCell ⟨z, 6, none⟩ v6) (L.set i (blkP z t #[v0, v1, v2, v3, v4, v5, v6])) := by
  have hl := (List.getElem?_eq_some_iff.1 hi).1
  have st : ∀ {w : World} {cs : Array Value} (h : SepO W oo w (L.set i (blkP z t cs))) (j : Nat) (v : Value), SepO W oo (w.setCell ⟨z, j, none⟩ v) (L.set i (blkP z t (cs.setIfInBounds j v))) := fun h j v => by
    have := h.set_blk i (by rw [List.getElem?_set_self hl]) j v
    rwa [List.set_set] at this
  have h0 : SepO W oo w (L.set i (blkP z t #[a0, a1, a2, a3, a4, a5, a6])) := by rw [list_same hi]; exact h
  have r := st (st (st (st (st (st (st h0 0 v0) 1 v1) 2 v2) 3 v3) 4 v4) 5 v5) 6 v6
  have e : (((((((#[a0, a1, a2, a3, a4, a5, a6] : Array Value).setIfInBounds 0 v0).setIfInBounds 1 v1).setIfInBounds 2 v2).setIfInBounds 3 v3).setIfInBounds 4 v4).setIfInBounds 5 v5).setIfInBounds 6 v6 = #[v0, v1, v2, v3, v4, v5, v6] := by simp
  rw [e] at r
  exact r
theorem c_last_set {P Q : Pr} : (cparts k S ++ (l ++ [P])).set (8 + l.length) Q = cparts k S ++ (l ++ [Q]) := by
  rw [List.set_append_right _ _ (by simp [cparts]), List.set_append_right _ _ (by simp [cparts])]
  simp [cparts]
theorem head_in (a : Int) (h : SepO W oo w (cparts k S ++ l)) : Calls Tryz.prog 93 #[pt k.c, .int .i64 a] w fun e w' => e = .returned (.agg (S.hd a).cells) ∧ SepO W oo w' (cparts k S ++ l) := by
  obtain ⟨⟨c13, _⟩, _, hbl, _⟩ := c_at h
  have H := Lib.hid h
  obtain ⟨H0, hH0⟩ : ∃ x, S.hd a = x := ⟨_, rfl⟩
  rw [hH0]
  have HH := Lib.hid hH0
  clear h hH0
  go_enter Tryz.func93, Tryz.ntmps93
  go_wp2_with fail
  obtain ⟨z, hzz⟩ : ∃ z, w.heap.size = z := ⟨_, rfl⟩
  have hz := c_add H.out 99 #[i6 0, i6 0, i6 0, i6 0, .bool false, .bool false, .bool false]
  rw [hzz] at hz
  refine (oba_read hz (fun o ho => Ob.Head_calls a ho)).mono ?_
  rintro e w1 ⟨rfl, h1⟩
  rw [show Ob.hdAt S.ws a = H0 from HH.out]
  have zb := SepO.blk h1 (8 + l.length) c_last
  have zl := zb.lt
  have zf := zb.frozen
  have z0 := zb.cell 0
  have z1 := zb.cell 1
  have z2 := zb.cell 2
  have z3 := zb.cell 3
  have z4 := zb.cell 4
  have z5 := zb.cell 5
  have z6 := zb.cell 6
  simp at z0 z1 z2 z3 z4 z5 z6
  have H1 := Lib.hid h1
  obtain ⟨q0, q1, q2, q3, q4, q5, q6⟩ := H0
  simp only [Hea.Hd.cells]
  have h2 := put7 h1 c_last (i6 q0) (i6 q1) (i6 q2) (i6 q3) (.bool q4) (.bool q5) (.bool q6)
  rw [c_last_set] at h2
  have h3 := h2.alloc (.cells #[i6 q0, i6 q1, i6 q2, i6 q3, .bool q4, .bool q5, .bool q6] 99)
  have zn := SepO.blk h3 (8 + l.length) c_last
  have e0 := zn.cell 0
  have e1 := zn.cell 1
  have e2 := zn.cell 2
  have e3 := zn.cell 3
  have e4 := zn.cell 4
  have e5 := zn.cell 5
  have e6 := zn.cell 6
  simp only [List.getElem?_toArray, List.getElem?_cons_zero, List.getElem?_cons_succ] at e0 e1 e2 e3 e4 e5 e6
  have H3 := Lib.hid h3
  have E := Lib.hid (And.intro e0 (And.intro e1 (And.intro e2 (And.intro e3 (And.intro e4 (And.intro e5 e6))))))
  clear H HH h1 hz c13 hbl zb h2 h3 zn e0 e1 e2 e3 e4 e5 e6
  go_wp2_with fail
  obtain ⟨e0, e1, e2, e3, e4, e5, e6⟩ := E.out
  rw [hzz]
  refine bodyPost_ret (v := .agg #[i6 q0, i6 q1, i6 q2, i6 q3, .bool q4, .bool q5, .bool q6]) (by simp [results, Tryz.results93, go_sem, e0, e1, e2, e3, e4, e5, e6]) rfl ⟨rfl, c_drop H3.out⟩
end
end Go.Proofs.YtihmkkjmnbehbaaGreat.Wh
/- Calls of the core on one object: Head, SetHead, Ref, Now, Note, Mark. No condition. -/
set_option linter.unusedVariables false
set_option linter.unusedSimpArgs false
namespace Go.Proofs.YtihmkkjmnbehbaaGreat.Wh
open Go.RowKit Go.Proofs.YtihmkkjmnbehbaaGreat.W
def I64 (x : Int) : Prop := -9223372036854775808 ≤ x ∧ x ≤ 9223372036854775807
theorem wrap64_b (x : Int) : I64 (wrap64 x) := by unfold I64 wrap64; constructor <;> omega
theorem now_b (S : CS) {a : Int} (ha : I64 a) : I64 (S.now a) := by
  unfold CS.now
  split
  · exact ha
  · split
    · exact wrap64_b _
    · exact ⟨by omega, by omega⟩
theorem ref_b (S : CS) (a n : Int) : I64 (S.ref a n) := wrap64_b _
section
variable {W w : World} {oo : Nat → Prop} {k : CK} {S : CS} {l : List Pr} {F : FuncId} {args : Array Value}
theorem bmp_read {v : Value} (h : SepO W oo w (cparts k S ++ l)) (hc : ∀ o, Bp.SRep w o k.y S.y → Calls Tryz.prog F args w fun e w' => e = .returned v ∧ Keep (fun _ => False) w w') : Calls Tryz.prog F args w fun e w' => e = .returned v ∧ SepO W oo w' (cparts k S ++ l) := by
  obtain ⟨o, hp, _⟩ := h.get 2 rfl
  exact (hc o hp).mono fun e w' ⟨he, hk⟩ => ⟨he, h.stay hk⟩
theorem Head_in (a : Int) (h : SepO W oo w (cparts k S ++ l)) : Calls Tryz.prog 52 #[pt k.c, .int .i64 a] w fun e w' => e = .returned (.agg (S.hd a).cells) ∧ SepO W oo w' (cparts k S ++ l) := by
  have H := Lib.hid h
  obtain ⟨H0, hH0⟩ : ∃ x, S.hd a = x := ⟨_, rfl⟩
  rw [hH0]
  have HH := Lib.hid hH0
  clear h hH0
  go_enter Tryz.func52, Tryz.ntmps52
  go_wp2_with fail
  obtain ⟨z, hzz⟩ : ∃ z, w.heap.size = z := ⟨_, rfl⟩
  have hz := c_add H.out 99 #[i6 0, i6 0, i6 0, i6 0, .bool false, .bool false, .bool false]
  rw [hzz] at hz
  refine (head_in a hz).mono ?_
  rintro e w1 ⟨rfl, h1⟩
  rw [HH.out]
  have zb := SepO.blk h1 (8 + l.length) c_last
  have zl := zb.lt
  have zf := zb.frozen
  have z0 := zb.cell 0
  have z1 := zb.cell 1
  have z2 := zb.cell 2
  have z3 := zb.cell 3
  have z4 := zb.cell 4
  have z5 := zb.cell 5
  have z6 := zb.cell 6
  simp at z0 z1 z2 z3 z4 z5 z6
  obtain ⟨q0, q1, q2, q3, q4, q5, q6⟩ := H0
  simp only [Hea.Hd.cells]
  have h2 := put7 h1 c_last (i6 q0) (i6 q1) (i6 q2) (i6 q3) (.bool q4) (.bool q5) (.bool q6)
  rw [c_last_set] at h2
  have zn := SepO.blk h2 (8 + l.length) c_last
  have e0 := zn.cell 0
  have e1 := zn.cell 1
  have e2 := zn.cell 2
  have e3 := zn.cell 3
  have e4 := zn.cell 4
  have e5 := zn.cell 5
  have e6 := zn.cell 6
  simp only [List.getElem?_toArray, List.getElem?_cons_zero, List.getElem?_cons_succ] at e0 e1 e2 e3 e4 e5 e6
  have H3 := Lib.hid h2
  have E := Lib.hid (And.intro e0 (And.intro e1 (And.intro e2 (And.intro e3 (And.intro e4 (And.intro e5 e6))))))
  clear H HH h1 hz zb h2 zn e0 e1 e2 e3 e4 e5 e6
  go_wp2_with fail
  obtain ⟨e0, e1, e2, e3, e4, e5, e6⟩ := E.out
  rw [hzz]
  refine bodyPost_ret (v := .agg #[i6 q0, i6 q1, i6 q2, i6 q3, .bool q4, .bool q5, .bool q6]) (by simp [results, Tryz.results52, go_sem, e0, e1, e2, e3, e4, e5, e6]) rfl ⟨rfl, c_drop H3.out⟩
theorem Ref_in (a n : Int) (h : SepO W oo w (cparts k S ++ l)) : Calls Tryz.prog 54 #[pt k.c, .int .i64 a, .int .i64 n] w fun e w' => e = .returned (.int .i64 (S.ref a n)) ∧ SepO W oo w' (cparts k S ++ l) := by
  obtain ⟨⟨c13, _⟩, _, hbl, _⟩ := c_at h
  have H := Lib.hid h
  obtain ⟨x, hx⟩ : ∃ x, Ob.ldW S.ws (Ob.placeOf a n) = x := ⟨_, rfl⟩
  unfold CS.ref
  rw [hx]
  have HX := Lib.hid hx
  clear h hx
  go_enter Tryz.func54, Tryz.ntmps54
  go_wp2_with fail
  refine (oba_read H.out (fun o ho => Ob.Field_calls a n ho)).mono ?_
  rintro e w1 ⟨rfl, h1⟩
  rw [HX.out]
  have H1 := Lib.hid h1
  clear h1 H c13 hbl HX
  go_wp2_with fail
  go_ret
  exact ⟨rfl, H1.out⟩
theorem Now_in (a : Int) (ha : I64 a) (h : SepO W oo w (cparts k S ++ l)) : Calls Tryz.prog 60 #[pt k.c, .int .i64 a] w fun e w' => e = .returned (.int .i64 (S.now a)) ∧ SepO W oo w' (cparts k S ++ l) := by
  obtain ⟨⟨c13, c14, _⟩, _, hbl, _⟩ := c_at h
  have H := Lib.hid h
  unfold CS.now
  by_cases h0 : a = 0
  · subst h0
    rw [if_pos (.inl rfl)]
    clear h
    go_enter Tryz.func60, Tryz.ntmps60
    go_wp2_with fail
    go_ret
    exact ⟨rfl, H.out⟩
  · have h0' : (a == 0) = false := beq_false_of_ne h0
    cases hf : S.y.isFrom a
    · rw [if_pos (.inr rfl)]
      have HF := Lib.hid hf
      clear h hf h0
      go_enter Tryz.func60, Tryz.ntmps60
      go_wp2_with fail
      refine (bmp_read H.out (fun o ho => Bp.From_calls a w ho ha.2)).mono ?_
      rintro e w1 ⟨rfl, h1⟩
      rw [HF.out]
      have H1 := Lib.hid h1
      clear h1 H c13 c14 hbl
      go_wp2_with fail
      go_ret
      exact ⟨rfl, H1.out⟩
    · rw [if_neg (by simp [h0])]
      obtain ⟨v, hv⟩ : ∃ v, (if Ob.okAt a = true then wrap64 (Ob.ldW S.ws (a + 1)) else 0) = v := ⟨_, rfl⟩
      rw [hv]
      have HV := Lib.hid hv
      have HF := Lib.hid hf
      clear h hf h0 hv
      go_enter Tryz.func60, Tryz.ntmps60
      go_wp2_with fail
      refine (bmp_read H.out (fun o ho => Bp.From_calls a w ho ha.2)).mono ?_
      rintro e w1 ⟨rfl, h1⟩
      rw [HF.out]
      obtain ⟨⟨y13, _⟩, _, ybl, _⟩ := c_at h1
      have H1 := Lib.hid h1
      clear h1 H c13 c14 hbl
      go_wp2_with fail
      refine (oba_read H1.out (fun o ho => Ob.Way_calls a ho)).mono ?_
      rintro e w2 ⟨rfl, h2⟩
      rw [HV.out]
      have H2 := Lib.hid h2
      clear h2 H1
      go_wp2_with fail
      all_goals
        go_ret
        exact ⟨rfl, H2.out⟩
theorem oba_write {v : Value} {ws' : List Int} (h : SepO W oo w (cparts k S ++ l)) (hc : ∀ o, Ob.OA w o k.a S.ws → Calls Tryz.prog F args w fun e w' => e = .returned v ∧ Ob.OA w' o k.a ws' ∧ Keep o w w') : Calls Tryz.prog F args w fun e w' => e = .returned v ∧ SepO W oo w' (cparts k { S with ws := ws' } ++ l) := by
  obtain ⟨o, hp, _, hup⟩ := h.open0 1 rfl
  refine (hc o hp).mono ?_
  rintro e w' ⟨rfl, hr, hk⟩
  exact ⟨rfl, hup w' (Oba k.a ws') hr hk⟩
theorem SetHead_in (a : Int) (x : Hd) (h : SepO W oo w (cparts k S ++ l)) : Calls Tryz.prog 117 #[pt k.c, .int .i64 a, .agg x.cells] w fun e w' => e = .returned (.tuple #[]) ∧ SepO W oo w' (cparts k (S.setHd a x) ++ l) := by
  obtain ⟨⟨c13, _⟩, _, hbl, _⟩ := c_at h
  obtain ⟨z, hzz⟩ : ∃ z, w.heap.size = z := ⟨_, rfl⟩
  have hz := c_add h 99 x.cells
  rw [hzz] at hz
  have hc : ∀ w', SepO W oo w' (cparts k S ++ (l ++ [blkP z 99 x.cells])) → Calls Tryz.prog 137 #[pt k.a, .int .i64 a, .agg x.cells] w' fun e w'' => ∃ v, e = .returned (.int .i64 v) ∧ SepO W oo w'' (cparts k (S.setHd a x) ++ (l ++ [blkP z 99 x.cells])) := fun w' h' =>
    (oba_write h' (fun o ho => Ob.SetHead_calls a x ho)).mono fun e w'' ⟨h1, h2⟩ => ⟨_, h1, h2⟩
  obtain ⟨q0, q1, q2, q3, q4, q5, q6⟩ := x
  obtain ⟨⟨d13, _⟩, _, _⟩ := c_at hz
  have zb := SepO.blk hz (8 + l.length) c_last
  have z0 := zb.cell 0
  have z1 := zb.cell 1
  have z2 := zb.cell 2
  have z3 := zb.cell 3
  have z4 := zb.cell 4
  have z5 := zb.cell 5
  have z6 := zb.cell 6
  simp [Hea.Hd.cells] at z0 z1 z2 z3 z4 z5 z6
  have HZ := Lib.hid hz
  have HC := Lib.hid hc
  simp only [Hea.Hd.cells]
  simp only [Hea.Hd.cells] at HC HZ d13 z0 z1 z2 z3 z4 z5 z6
  clear h hz hc zb
  go_enter Tryz.func117, Tryz.ntmps117
  go_wp2_with fail
  go_region_held3 (fun w' => w'.cell? ⟨k.c, 13, none⟩ = some (pt k.a) ∧ w'.cell? ⟨z, 0, none⟩ = some (i6 q0) ∧ w'.cell? ⟨z, 1, none⟩ = some (i6 q1) ∧ w'.cell? ⟨z, 2, none⟩ = some (i6 q2) ∧ w'.cell? ⟨z, 3, none⟩ = some (i6 q3) ∧ w'.cell? ⟨z, 4, none⟩ = some (.bool q4) ∧ w'.cell? ⟨z, 5, none⟩ = some (.bool q5) ∧ w'.cell? ⟨z, 6, none⟩ = some (.bool q6)) (first | exact ⟨d13, z0, z1, z2, z3, z4, z5, z6⟩ | exact ⟨f13, f0, f1, f2, f3, f4, f5, f6⟩ | go_keep) ((go_at_call 137; (with_reducible refine (HC.out _ ?hx).mono ?_); (case hx => exact HZ.out.drewN _); rintro e w1 ⟨v1, rfl, h1⟩; have f13 := (c_at h1).1.1; have fb := SepO.blk h1 (8 + l.length) c_last; have f0 := fb.cell 0; have f1 := fb.cell 1; have f2 := fb.cell 2; have f3 := fb.cell 3; have f4 := fb.cell 4; have f5 := fb.cell 5; have f6 := fb.cell 6; simp at f0 f1 f2 f3 f4 f5 f6))
  go_wp2_with fail
  go_end0
  exact ⟨rfl, c_drop h1⟩
end
end Go.Proofs.YtihmkkjmnbehbaaGreat.Wh
