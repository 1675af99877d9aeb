/- Package world: what each step comes to, as plain functions on the model of a world. Definitions alone. -/
import Derived.Test.YtgjafaheglnheaaGreatDoorHsCW
namespace Go.Tr

/-! ### Who is idle -/
namespace Idl
/-- The least processor that is idle; -1: none is. -/
def first (x : Idl) : Int := match (List.range 64).find? fun k => x.w.testBit k with
  | some k => (k : Int)
  | none => -1
def putP (x : Idl) (p : Int) : Idl := if !decide (p ∈ x.pend) && (decide (0 ≤ p ∧ p < x.n) && (hasW x.n x.w p == false)) then { x with w := turnW x.w p } else x
def takesP (x : Idl) : Bool := decide (0 ≤ x.first ∧ x.first < x.n) && (hasW x.n x.w x.first == true)
def takeP (x : Idl) : Idl × Int × Bool := (if x.takesP then { x with w := turnW x.w x.first } else x, max 0 x.first, x.takesP)
def pended (x : Idl) (p : Int) : Idl := if p < 0 ∨ x.n ≤ p ∨ hasW x.n x.w p = true ∨ p ∈ x.pend then x else { x with pend := x.pend ++ [p] }
def takePending (x : Idl) : Idl × Int × Bool := match x.pend with
  | [] => (x, 0, false)
  | p :: r => ({ x with pend := r }, p, true)
def takeM (x : Idl) : Idl × Int × Bool := if x.ms = [] then ({ x with poller := -1 }, max 0 x.poller, decide (x.poller ≠ -1)) else ({ x with ms := x.ms.dropLast }, x.ms.getLastD 0, true)
def leave (x : Idl) (m : Int) : Idl := if 0 ≤ m ∧ m = x.poller then { x with poller := -1 } else x
def leaves (x : Idl) (m : Int) : Bool := decide (0 ≤ m ∧ m = x.poller)
end Idl

/-! ### What wakes from outside -/
/-- Of a time and how much later. -/
def sumT (t d : Int) : Int := let s := IntKind.i64.wrap (t + d); if 0 < d ∧ s < t then 9223372036854775807 else if d < 0 ∧ t < s then -9223372036854775808 else s
namespace En
def ahead (a b : En) : Bool := decide (a.w < b.w) || (decide (a.w = b.w) && (decide (a.o < b.o) || (decide (a.o = b.o) && decide (a.g < b.g))))
end En
def swapL (l : List En) (i j : Nat) : List En := (l.set i (l.getD j ⟨0, 0, 0⟩)).set j (l.getD i ⟨0, 0, 0⟩)
/-- An entry goes up. -/
def upL (l : List En) (i : Nat) : List En :=
  if h : i = 0 then l else
    if (l.getD i ⟨0, 0, 0⟩).ahead (l.getD ((i - 1) / 4) ⟨0, 0, 0⟩) = true then upL (swapL l i ((i - 1) / 4)) ((i - 1) / 4) else l
termination_by i
decreasing_by omega
/-- The least of the places under one. -/
def leastL (l : List En) (i : Nat) : Nat :=
  (List.range' (4 * i + 1) (min 4 (l.length - (4 * i + 1)))).foldl (fun best k => if (l.getD k ⟨0, 0, 0⟩).ahead (l.getD best ⟨0, 0, 0⟩) = true then k else best) (4 * i + 1)
/-- An entry goes down, in so many steps at most. -/
def downL : Nat → List En → Nat → List En
  | 0, l, _ => l
  | n + 1, l, i => if 4 * i + 1 < l.length then
      (if (l.getD (leastL l i) ⟨0, 0, 0⟩).ahead (l.getD i ⟨0, 0, 0⟩) = true then downL n (swapL l i (leastL l i)) (leastL l i) else l)
    else l
def putL (l : List En) (e : En) : List En := upL (l ++ [e]) l.length
def takeL (l : List En) : List En := downL l.length (l.dropLast.set 0 (l.getLastD ⟨0, 0, 0⟩)) 0
namespace Src
/-- The heap whose first entry stands ahead of all others. -/
def firstH (x : Src) : Option (Nat × En) :=
  (List.range x.hs.length).foldl (fun best i => match x.hs.getD i [] with
    | [] => best
    | e :: _ => match best with
      | none => some (i, e)
      | some (j, b) => if e.ahead b = true then some (i, e) else some (j, b)) none
def tdue (x : Src) : Bool := match x.firstH with
  | some (_, e) => decide (e.w ≤ x.now)
  | none => false
def pdue (x : Src) : Bool := x.fds.any fun f => f.waits && f.ready
def due (x : Src) : Bool := x.tdue || x.pdue
def out (x : Src) (g : Int) : Bool := decide (g ∈ x.has) || x.who.any fun p => p.1 == g
def fdOf (x : Src) (fd : Int) : Option Fd := x.fds.find? fun f => f.fd == fd
def setFd (x : Src) (f : Fd) : Src := if x.fds.any (fun k => k.fd == f.fd) = true then { x with fds := x.fds.map fun k => if k.fd = f.fd then f else k } else { x with fds := x.fds ++ [f] }
/-- It sleeps until so much later; what is told. -/
def sleep (x : Src) (p g d : Int) : Src × Bool :=
  if x.who.any (fun q => q.1 == g) = true then (x, false) else
  if p < 0 ∨ x.hs.length ≤ p ∨ g < 0 ∨ 4096 ≤ g ∨ g ∈ x.has then (x, false) else
    let y : Src := { x with hs := x.hs.set p.toNat (putL (x.hs.getD p.toNat []) ⟨sumT x.now (max 0 d), x.order, g⟩), order := IntKind.u64.wrap (x.order + 1), has := x.has ++ [g] }
    (y, y.due)
/-- It waits for a descriptor; what is told, and is it no error. -/
def wait (x : Src) (fd g : Int) : Src × Bool × Bool :=
  if g ∈ x.has then (x, false, false) else
  if g < 0 ∨ 4096 ≤ g ∨ ((x.fdOf fd).any fun f => f.waits) = true ∨ (x.who.any fun q => q.1 == g) = true ∨ (x.fdOf fd = none ∧ 1024 ≤ x.fds.length) then (x, false, false) else
    let y : Src := x.setFd ⟨fd, g, true, ((x.fdOf fd).map (·.ready)).getD false⟩
    let z : Src := { y with who := y.who ++ [(g, fd)], waits := IntKind.i64.wrap (y.waits + 1) }
    (z, z.due, true)
def tick (x : Src) (d : Int) : Src × Bool := let y : Src := { x with now := sumT x.now (max 0 d) }; (y, y.due)
def ready (x : Src) (fd : Int) : Src × Bool × Bool :=
  if x.fdOf fd = none ∧ 1024 ≤ x.fds.length then (x, false, false) else
    let y : Src := x.setFd (match x.fdOf fd with
      | some f => { f with ready := true }
      | none => ⟨fd, 0, false, true⟩)
    (y, y.due, true)
/-- The least descriptor that is ready and waited for. -/
def firstFd (x : Src) : Option Fd := (x.fds.filter fun f => f.waits && f.ready).foldl (fun best f => match best with
  | none => some f
  | some b => if f.fd < b.fd then some f else some b) none
def take (x : Src) : Src × Int × Bool :=
  if x.tdue = true then match x.firstH with
    | some (i, e) => ({ x with hs := x.hs.set i (takeL (x.hs.getD i [])), has := x.has.filter fun g => g != e.g }, e.g, true)
    | none => (x, 0, false)
  else match x.firstFd with
    | some f => ({ x with fds := x.fds.filter fun k => k.fd != f.fd, who := x.who.filter fun q => q.1 != f.g, waits := IntKind.i64.wrap (x.waits - 1) }, f.g, true)
    | none => (x, 0, false)
end Src

/-! ### A world's own functions -/
/-- A step. -/
structure St where
  kind : Int
  act : Int
  a : Int
  x : Int
  d : Int
def either (is : Bool) (a b : Int) : Int := if is then a else b
namespace Wm
def add (x : Wm) (i : Nat) (k g v : Int) : Wm := x.logged ⟨k, g, i, (x.all i).p, v⟩
def found (x : Wm) (i : Nat) (l : List Int) : Wm := match l with
  | [] => x.flagged i false
  | g :: r => (x.flagged i true).upd i fun m => { m with got := g, rest := r }
def one (x : Wm) (i : Nat) (g : Int) (is : Bool) : Wm := if is then x.found i [g] else x.found i []
def hold (x : Wm) (i : Nat) (p : Int) (is : Bool) : Wm := if is then (x.flagged i true).upd i fun m => { m with p := p } else x.flagged i false
def move (x : Wm) (g a c : Int) : Wm := x.withMem (moved x.mem x.tab x.G g a c)
def moves (x : Wm) (g a c : Int) : Bool := Go.Tr.moves x.mem x.tab x.G g a c
def put (x : Wm) (g a : Int) : Wm := x.withMem (if sets x.G g a = true then x.mem.tick.put (x.tab + g) a else x.mem)
def spinAdd (x : Wm) (d : Int) : Wm := x.withMem (x.mem.tick.put x.spinning (x.mem.plus x.spinning d))
/-- A note is woken, wherever it lies. -/
def wakeMem (m : Mem) (i : Int) : Mem := if 0 ≤ i ∧ i < m.W.length then (if m.get i = 0 then m.tick.put i 1 else m.tick) else m
def wake (x : Wm) (k : Int) : Wm := x.withMem (wakeMem x.mem (IntKind.i64.wrap (x.notes + k)))

def find (x : Wm) (i : Nat) (times : Int) : Wm × Bool :=
  if 0 < times then (x.spinAdd (-1), false) else
    let t := x.idle.takeP
    let y := x.withIdle t.1
    if t.2.2 = false then (y, true) else
      let k := y.idle.takeM
      let z := y.withIdle k.1
      if k.2.2 then ((z.upd k.2.1.toNat fun m => { m with next := t.2.1 }).upd i fun m => { m with target := k.2.1 }, false)
      else (z.withIdle (z.idle.pended t.2.1), false)
def out (x : Wm) (i : Nat) (times : Int) : Wm × Bool :=
  let m := x.all i
  if m.place = 30 then
    if times = 0 then
      let r := x.src.wait (IntKind.u16.wrap m.arg) m.g
      ((x.withSrc r.1).flagged i r.2.1, r.2.2)
    else (((x.move m.g 2 5).add i 6 m.g m.arg).upd i fun m => { m with g := -1 }, false)
  else if times = 0 then
    let until_ := sumT x.src.now (max 0 m.arg)
    let r := x.src.sleep m.p m.g m.arg
    (((x.withSrc r.1).flagged i r.2).upd i fun m => { m with arg := until_ }, true)
  else (((x.move m.g 2 4).add i 5 m.g m.arg).upd i fun m => { m with g := -1 }, false)

/-- What a machine does with its lock held; does it go on? -/
def act (x : Wm) (i : Nat) (times : Int) : Wm × Bool :=
  let m := x.all i
  if m.place = 2 then ((x.withQueue x.queue.tail).one i (x.queue.headD 0) (!x.queue.isEmpty), false)
  else if m.place = 3 then ((x.withRing m.p.toNat (x.rings m.p.toNat).get.1).one i (x.rings m.p.toNat).get.2.1 (x.rings m.p.toNat).get.2.2, false)
  else if m.place = 4 then ((x.withQueue (x.queue.drop (most x.queue (shareOf x.queue x.P)))).found i (x.queue.take (most x.queue (shareOf x.queue x.P))), false)
  else if m.place = 6 then
    let k := ((IntKind.i64.wrap (m.p + m.i)).tmod x.P).toNat
    ((x.withRing k (x.rings k).steal.1).found i (x.rings k).steal.2, false)
  else if m.place = 7 then
    let y := (x.withQueue (x.queue.drop (most x.queue (shareOf x.queue x.P)))).found i (x.queue.take (most x.queue (shareOf x.queue x.P)))
    if y.flag i then (y, false) else ((y.withIdle (y.idle.putP m.p)).upd i fun m => { m with p := -1 }, false)
  else if m.place = 9 then (x.flagged i (decide (0 < (x.rings m.i.toNat).list.length)), false)
  else if m.place = 10 then (x.flagged i (decide (0 < x.queue.length)), false)
  else if m.place = 11 then ((x.withIdle x.idle.takeP.1).hold i x.idle.takeP.2.1 x.idle.takeP.2.2, false)
  else if m.place = 13 then
    let t := x.idle.takePending
    let y := ((x.withIdle t.1).hold i t.2.1 t.2.2).upd i fun m => { m with spin := t.2.2 }
    if t.2.2 then (y, false) else ((y.withIdle (y.idle.stop i)).flagged i (y.idle.stops i).1, false)
  else if m.place = 15 then ((x.withIdle (x.idle.leave i)).flagged i (x.idle.leaves i), false)
  else if m.place = 18 then ((x.withQueue (x.queue ++ m.rest)).upd i fun m => { m with rest := [] }, false)
  else if m.place = 27 then ((x.withQueue (x.queue ++ [m.got])).upd i fun m => { m with got := -1 }, false)
  else if m.place = 17 then ((x.withRing m.p.toNat ((x.rings m.p.toNat).putAll m.rest).1).upd i fun k => { k with rest := ((x.rings m.p.toNat).putAll m.rest).2 }, false)
  else if m.place = 28 then ((x.withRing m.p.toNat ((x.rings m.p.toNat).ready m.got).1).upd i fun k => { k with rest := ((x.rings m.p.toNat).ready m.got).2, got := -1 }, false)
  else if m.place = 14 then (x.flagged i x.src.due, false)
  else if m.place = 25 then ((x.withSrc x.src.take.1).one i x.src.take.2.1 x.src.take.2.2, false)
  else if m.place = 23 then x.find i times
  else if m.place = 29 ∨ m.place = 30 then x.out i times
  else (x, false)

def take (x : Wm) (i : Nat) : Wm := x.upd i fun m => { m with back := 20, place := if 0 < m.rest.length then 17 else if m.spin then 19 else 20 }
def settle (x : Wm) (i : Nat) : Wm := x.upd i fun m => { m with place := if 0 < m.rest.length then 18 else if m.spin then 19 else 21 }
def steal (x : Wm) (i : Nat) (from_ : Int) : Wm := x.upd i fun m => { m with i := from_, place := if (x.P : Int) ≤ from_ then 7 else 6 }
def deliver (x : Wm) (i : Nat) (after : Int) : Wm := x.upd i fun m => { m with after := after, place := 25 }
def go (x : Wm) (i : Nat) (place : Int) : Wm := x.upd i fun m => { m with place := place }
def searched (x : Wm) (i : Nat) (is : Bool) : Wm :=
  let m := x.all i
  if is then x.take i
  else if m.place = 2 then x.go i 3
  else if m.place = 3 then x.go i 4
  else if m.place = 7 then x.go i 8
  else if m.place = 6 then x.steal i (IntKind.i64.wrap (m.i + 1))
  else if m.spin then x.steal i 1
  else x.go i 5
/-- Where a machine goes on behind its section. -/
def next (x : Wm) (i : Nat) : Wm :=
  let m := x.all i
  let is := x.flag i
  if m.place = 2 ∨ m.place = 3 ∨ m.place = 4 ∨ m.place = 6 ∨ m.place = 7 then x.searched i is
  else if m.place = 9 then x.upd i fun m => { m with i := IntKind.i64.wrap (m.i + 1), place := either is 11 (either (decide (IntKind.i64.wrap (m.i + 1) < x.P)) 9 10) }
  else if m.place = 10 then x.go i (either is 11 13)
  else if m.place = 11 then x.go i (either is 12 13)
  else if m.place = 13 then x.go i (either m.spin 4 (either is 14 16))
  else if m.place = 14 then x.go i (either is 15 16)
  else if m.place = 15 then if is then x.deliver i 13 else x.go i 16
  else if m.place = 17 ∨ m.place = 18 then x.settle i
  else if m.place = 28 then (x.upd i fun m => { m with back := 0 }).settle i
  else if m.place = 27 then x.go i 21
  else if m.place = 23 then x.go i (either (decide (0 ≤ m.target)) 24 m.back)
  else if m.place = 25 then x.go i (either is 26 m.after)
  else if m.place = 29 ∨ m.place = 30 then
    let y := x.go i (either (decide (0 ≤ m.g)) 0 1)
    if m.g < 0 ∧ is = true then y.deliver i 1 else y
  else x

/-- A step of a section, which is begun. -/
def sec (x : Wm) (i : Nat) : Wm × Bool :=
  let m := x.all i
  if m.stage = 0 then ((x.withMem (x.mem.tick.put m.ln (x.mem.plus m.ln 1))).upd i fun k => { k with ticket := IntKind.u64.wrap (x.mem.plus m.ln 1 - 1), stage := 1 }, false)
  else if m.stage = 1 then
    let y := x.withMem x.mem.tick
    if IntKind.u64.wrap (m.ticket - x.mem.get m.ls) = 0 then (y.upd i fun k => { k with stage := 2 }, false) else (y, false)
  else if m.stage = 2 then
    let r := x.act i m.times
    (r.1.upd i fun k => { k with times := IntKind.i64.wrap (k.times + 1), stage := if r.2 then k.stage else 3 }, false)
  else if m.stage = 3 then
    ((x.withMem (if IntKind.u64.wrap (m.ticket - x.mem.get m.ls) = 0 then x.mem.tick.tick.put m.ls (IntKind.u64.wrap (m.ticket + 1)) else x.mem.tick)).upd i fun k => { k with stage := 4 }, true)
  else (x, decide (m.stage = 4))
def locked (x : Wm) (i : Nat) (lock : Int) : Wm :=
  let y := if (x.all i).inn then x else (x.upd i fun m => { m with ln := 2 * lock, ls := 2 * lock + 1, stage := 0, ticket := 0, times := 0, inn := true }).flagged i false
  let r := y.sec i
  if r.2 then (r.1.upd i fun m => { m with inn := false }).next i else r.1
def bare (x : Wm) (i : Nat) : Wm :=
  let m := x.all i
  if m.place = 1 then
    let t := IntKind.i64.wrap (x.turns m.p.toNat + 1)
    let y := (x.turned m.p.toNat t).go i 3
    if t.tmod 61 = 0 then y.deliver i 2 else y
  else if m.place = 5 then ((x.spinAdd 1).upd i fun m => { m with spin := true }).steal i 1
  else if m.place = 12 then (x.spinAdd 1).upd i fun m => { m with spin := true, place := 4 }
  else if m.place = 8 then (x.spinAdd (-1)).upd i fun m => { m with spin := false, i := 0, place := 9 }
  else if m.place = 19 then (x.spinAdd (-1)).upd i fun m => { m with spin := false, place := 21 }
  else if m.place = 20 then ((x.move m.got 1 2).add i 2 m.got 0).upd i fun m => { m with g := m.got, got := -1, place := 0 }
  else if m.place = 21 then (x.withMem x.mem.tick).go i (either (x.mem.get x.spinning == 0) 22 m.back)
  else if m.place = 22 then (x.withMem (if x.mem.get x.spinning = 0 then x.mem.tick.put x.spinning 1 else x.mem.tick)).go i (either (x.mem.get x.spinning == 0) 23 m.back)
  else if m.place = 24 then (x.wake m.target).upd i fun m => { m with target := -1, place := m.back }
  else if m.place = 26 then ((x.put m.got 1).add i 1 m.got 0).upd i fun m => { m with back := 25, place := 27 }
  else x
def woken (x : Wm) (i : Nat) : Wm × Bool :=
  if x.mem.get (x.notes + i) = 1 then
    let y := x.withMem (x.mem.tick.put (x.notes + i) 0)
    if (x.all i).next < 0 then (y.deliver i 13, true) else (y.upd i fun m => { m with p := m.next, next := -1, spin := true, place := 4 }, true)
  else (x.withMem x.mem.tick, false)
def leave (x : Wm) (i : Nat) (to k : Int) : Wm := ((x.move (x.all i).g 2 to).add i k (x.all i).g 0).upd i fun m => { m with got := -1, g := -1, place := 1 }
def rouse (x : Wm) (i : Nat) (g from_ k : Int) : Wm × Bool :=
  if x.moves g from_ 1 = true then (((x.move g from_ 1).add i k g 0).upd i fun m => { m with got := g, place := 28 }, true) else (x.move g from_ 1, false)
def exec (x : Wm) (i : Nat) (s : St) : Wm × Bool :=
  if s.act = 0 then (x, true)
  else if s.act = 1 then ((x.leave i 1 3).upd i fun m => { m with got := (x.all i).g, back := 1, place := 27 }, true)
  else if s.act = 2 then (x.leave i 3 4, true)
  else if s.act = 3 then (x.leave i 6 7, true)
  else if s.act = 4 then x.rouse i s.x 0 0
  else if s.act = 5 then x.rouse i s.x 3 1
  else if s.act = 6 then (x.upd i fun m => { m with arg := s.d, place := 29 }, true)
  else if s.act = 7 then if s.x < 0 ∨ 65536 ≤ s.x then (x, false) else (x.upd i fun m => { m with arg := s.x, place := 30 }, true)
  else (x, false)
def lock (x : Wm) (i : Nat) : Int := lockOf (x.all i).place (x.all i).p (x.all i).i x.P
def pick (x : Wm) (s : St) : Wm × Bool :=
  if s.a < 0 ∨ x.M ≤ s.a then (x, false) else
    let i := s.a.toNat
    if (x.all i).place = 0 then x.exec i s
    else if (x.all i).place = 16 then x.woken i
    else if 0 ≤ x.lock i then (x.locked i (x.lock i), true) else (x.bare i, true)
def tell (x : Wm) (due : Bool) : Wm :=
  if x.idle.poller ≠ -1 ∧ due = true then (x.withIdle (x.idle.leave (max 0 x.idle.poller))).wake (max 0 x.idle.poller) else x
def step (x : Wm) (s : St) : Wm × Bool :=
  if s.kind = 0 then x.pick s
  else if s.kind = 1 then ((x.withSrc (x.src.tick s.d).1).tell (x.src.tick s.d).2, true)
  else if s.kind = 2 then
    if s.a < 0 ∨ 65536 ≤ s.a then (x, false) else ((x.withSrc (x.src.ready s.a).1).tell (x.src.ready s.a).2.1, (x.src.ready s.a).2.2)
  else (x, false)
end Wm

end Go.Tr
