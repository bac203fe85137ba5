
/- Plain: the grammar of requests: which request, or which error at which offset, a list of tokens means. No program in sight. -/
import Derived.Test.YtklpfhkcbhkofaaEx
namespace CL
/-- where the parser is: how many nodes have begun, the different atoms so far, the tokens that are left -/
structure PS where
  n : Nat
  l : List At
  r : List Tk
/-- an error is an offset and a code -/
abbrev PR (α : Type) := Except (Int × Int) (α × PS)
def hdT (r : List Tk) : Tk := r.headD ⟨5, [], 0, 0⟩
def PS.hd (s : PS) : Tk := hdT s.r
def PS.next (s : PS) : PS := ⟨s.n, s.l, s.r.tail⟩
def sees (k : Int) (t : List UInt8) (s : PS) : Bool := decide (s.hd.kind = k ∧ s.hd.text = t)
def expectP (k : Int) (t : List UInt8) (s : PS) : PR Unit := if sees k t s = true then .ok ((), s.next) else .error (s.hd.pos, 8)
def wAll : List UInt8 := [97, 108, 108]
def wAny : List UInt8 := [97, 110, 121]
def wOf : List UInt8 := [111, 102]
def wPrio : List UInt8 := [112, 114, 105, 111]
def wLimit : List UInt8 := [108, 105, 109, 105, 116]
def beginsT (t : Tk) : Bool := decide (t.kind = 3 ∨ (t.kind = 1 ∧ (t.text = wAll ∨ t.text = wAny ∨ rsv t.text = false)))
/-- an atom joins the different ones -/
def addA (nm : Tk) (a : At) (s : PS) : PR Ex := if (note s.l a).1 = 0 then .ok (.mk 0 a [], ⟨s.n, (note s.l a).2, s.r⟩) else .error (nm.pos, (note s.l a).1)
/-- what follows the name of an atom -/
def atomP (nm : Tk) (s : PS) : PR Ex :=
  if sees 4 [58] s = true then (if s.next.hd.kind = 2 then addA nm ⟨nm.text, ⟨s.next.hd.num, 0⟩⟩ s.next.next else .error (s.next.hd.pos, 8))
  else if sees 4 [42] s = true then
    (if s.next.hd.kind = 3 then (if s.next.hd.num < 1 ∨ 8 < s.next.hd.num then .error (s.next.hd.pos, 12) else addA nm ⟨nm.text, ⟨0, s.next.hd.num⟩⟩ s.next.next) else .error (s.next.hd.pos, 8))
  else .error (s.hd.pos, 8)
/-- one after the other -/
def bindP {α γ : Type} (x : PR α) (f : α → PS → Except (Int × Int) γ) : Except (Int × Int) γ :=
  match x with
  | .error e => .error e
  | .ok v => f v.1 v.2
/-- the kids behind the first one -/
def moreP (p : PS → PR Ex) : Nat → List Ex → PS → PR (List Ex)
  | 0, acc, s => .ok (acc, s)
  | m + 1, acc, s => if sees 4 [44] s = true then bindP (p s.next) (fun x s' => moreP p m (acc ++ [x]) s') else .ok (acc, s)
/-- a list in brackets -/
def listP (p : PS → PR Ex) (s : PS) : PR (List Ex) :=
  bindP (expectP 4 [40] s) fun _ s1 => bindP (p s1) fun x s2 => bindP (moreP p 25 [x] s2) fun l s3 => bindP (expectP 4 [41] s3) fun _ s4 => .ok (l, s4)
/-- an expression; d levels may still begin -/
def exprP : Nat → PS → PR Ex
  | 0, s => if beginsT s.hd = true then .error (s.hd.pos, 4) else .error (s.hd.pos, 8)
  | d + 1, s =>
    if beginsT s.hd = false then .error (s.hd.pos, 8)
    else if 24 < s.n + 1 then .error (s.hd.pos, 4)
    else if s.hd.kind = 3 then
      bindP (expectP 1 wOf ⟨s.n + 1, s.l, s.r.tail⟩) fun _ s1 => bindP (listP (exprP d) s1) fun l s2 => if s.hd.num < 1 ∨ (l.length : Int) < s.hd.num then .error (s.hd.pos, 1) else .ok (.mk s.hd.num noAt l, s2)
    else if s.hd.text = wAll then bindP (listP (exprP d) ⟨s.n + 1, s.l, s.r.tail⟩) fun l s2 => .ok (.mk l.length noAt l, s2)
    else if s.hd.text = wAny then bindP (listP (exprP d) ⟨s.n + 1, s.l, s.r.tail⟩) fun l s2 => .ok (.mk 1 noAt l, s2)
    else atomP s.hd ⟨s.n + 1, s.l, s.r.tail⟩
/-- a word and a number -/
def optP (w : List UInt8) (most : Int) (s : PS) : PR Int :=
  if sees 1 w s = true then (if s.next.hd.kind = 3 then (if most < s.next.hd.num then .error (s.next.hd.pos, 1) else .ok (s.next.hd.num, s.next.next)) else .error (s.next.hd.pos, 8))
  else .ok (0, s)
structure Rq where
  e : Ex
  p : Int
  m : Int
def noRq : Rq := ⟨.mk 0 noAt [], 0, 0⟩
def parseT (ts : List Tk) : Except (Int × Int) Rq :=
  bindP (exprP 4 ⟨0, [], ts⟩) fun x s1 => bindP (optP wPrio 7 s1) fun p s2 => bindP (optP wLimit 1000 s2) fun m s3 => if s3.hd.kind = 5 then .ok ⟨x, p, m⟩ else .error (s3.hd.pos, 8)
/-- what Parse returns: the request, the offset, the error -/
def parseS (s : List UInt8) : Rq × Int × Int :=
  if (tokens s).2.2 ≠ 0 then (noRq, (tokens s).2.1, (tokens s).2.2)
  else match parseT (tokens s).1 with
    | .error e => (noRq, e.1, e.2)
    | .ok q => (q, 0, 0)
end CL
