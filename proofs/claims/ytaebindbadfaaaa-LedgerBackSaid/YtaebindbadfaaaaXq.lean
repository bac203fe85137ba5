
/- A region that draws its order, whose operations read and whose callees read or make new memory: walked once, in the order of the text, in the class of the worlds that only have grown. -/
import Derived.Test.YtaebindbadfaaaaWd
namespace Go.Proofs.Ytaebindbadfaaaa
open Go.RowKit
/-- a world in which nothing that was in w has changed -/
structure ExtOf (w : World) where
  val : World
  ext : Ext w val
instance (w : World) : Nonempty (ExtOf w) := ⟨⟨w, Ext.rfl'⟩⟩
theorem wp_region_ext_lit {P : Program} {id : Nat} {Q : Exit → Act → World → Prop} {a : Act} {w : World} {l : List Oper} (hm : P.follows .mixedOrders = true) (hB : Region.lexB .any l.toArray = true)
    (h : wpQuiet P l.toArray (fun w' => ∃ x : ExtOf w, w' = x.val) (fun a' => ∀ w', (∃ x : ExtOf w, w' = x.val) → Q .normal a' w') l a) : (Code.region id l.toArray true).wp P Q a w :=
  wp_region_quiet (C := fun w' => ∃ x : ExtOf w, w' = x.val) hm hB ⟨⟨_, Ext.drawn w⟩, rfl⟩ (by simpa using h)
theorem ExtOf.cell {w : World} {p : Addr} {v : Value} (h : w.cell? p = some v) (x : ExtOf w) : x.val.cell? p = some v := x.ext.cell h
/-- a contract that leaves the world alone, or makes new memory, offered inside such a region -/
theorem xqP {P : Program} {f : FuncId} {args : Array Value} {w : World} {x : ExtOf w} {v : Value}
    (h : Calls P f args x.val fun e w' => e = .returned v ∧ x.val = w') : Calls P f args x.val fun e w'' => e = .returned v ∧ ∃ y : ExtOf w, w'' = y.val :=
  h.mono fun _ _ ⟨he, hm⟩ => ⟨he, x, hm.symm⟩
theorem xqX {P : Program} {f : FuncId} {args : Array Value} {w : World} {x : ExtOf w} {v : Value}
    (h : Calls P f args x.val fun e w' => e = .returned v ∧ Ext x.val w') : Calls P f args x.val fun e w'' => e = .returned v ∧ ∃ y : ExtOf w, w'' = y.val :=
  h.mono fun _ _ ⟨he, hm⟩ => ⟨he, ⟨_, x.ext.tr hm⟩, rfl⟩
theorem xqN {P : Program} {f : FuncId} {args : Array Value} {w : World} {x : ExtOf w} {v : Value}
    (h : Calls P f args x.val fun e w' => e = .returned v ∧ ∃ n, w' = x.val.drewN n) : Calls P f args x.val fun e w'' => e = .returned v ∧ ∃ y : ExtOf w, w'' = y.val :=
  h.mono fun _ _ ⟨he, n, hm⟩ => ⟨he, ⟨_, x.ext.drewN n⟩, hm⟩
end Go.Proofs.Ytaebindbadfaaaa
