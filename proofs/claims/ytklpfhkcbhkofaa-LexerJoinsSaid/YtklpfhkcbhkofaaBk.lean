
/- Words for memory, second part: blocks that are known whole, worlds in which one block alone has changed. -/
import Derived.Test.YtklpfhkcbhkofaaWd
namespace Go.Proofs.Ytklpfhkcbhkofaa
open Go.RowKit
/-- a block that is known whole -/
def Blk (w : World) (g : Nat) (t : TypeId) (cs : Array Value) : Prop := w.heap[g]? = some (.cells cs t (0, 0))
theorem Blk.cell {w : World} {g : Nat} {t : TypeId} {cs : Array Value} (h : Blk w g t cs) (i : Nat) : w.cell? ⟨g, i, none⟩ = cs[i]? := cell_of_row w g i cs t (0, 0) h
theorem Blk.frozen {w : World} {g : Nat} {t : TypeId} {cs : Array Value} (h : Blk w g t cs) (i : Nat) : w.frozen? ⟨g, i, none⟩ = false := by
  unfold Blk at h
  simp [World.frozen?, h]
theorem Blk.set {w : World} {g : Nat} {t : TypeId} {cs : Array Value} (h : Blk w g t cs) (i : Nat) (u : Value) : Blk (w.setCell ⟨g, i, none⟩ u) g t (cs.setIfInBounds i u) := by
  unfold Blk at h ⊢
  simp [World.setCell, Array.getElem?_modify, h]
theorem Blk.drewN {w : World} {g : Nat} {t : TypeId} {cs : Array Value} (h : Blk w g t cs) (n : Nat) : Blk (w.drewN n) g t cs := h
theorem Blk.lt {w : World} {g : Nat} {t : TypeId} {cs : Array Value} (h : Blk w g t cs) : g < w.heap.size := by
  rcases Nat.lt_or_ge g w.heap.size with hlt | hge
  · exact hlt
  · unfold Blk at h; rw [Array.getElem?_eq_none hge] at h; cases h
/-- only block g has changed, and what is new -/
abbrev Only (g : Nat) (w w' : World) : Prop := w.grownBy w' (some g)
theorem Only.rf {g : Nat} {w : World} : Only g w w := World.grownBy.refl w _
theorem Only.drewN {g : Nat} {a w : World} (h : Only g a w) (n : Nat) : Only g a (w.drewN n) := ⟨h.os, h.tape, h.output, h.size, h.block⟩
theorem Only.drew {g : Nat} {a w : World} (h : Only g a w) : Only g a w.drew := ⟨h.os, h.tape, h.output, h.size, h.block⟩
theorem Only.set {g : Nat} {a w : World} (h : Only g a w) (i : Nat) (u : Value) : Only g a (w.setCell ⟨g, i, none⟩ u) :=
  ⟨h.os, h.tape, h.output, by simpa [World.setCell] using h.size, fun k hk hne => (Below.heap_setCell w _ u k (fun e => hne (by rw [e]))).trans (h.block k hk hne)⟩
theorem Only.tr {g : Nat} {a b c : World} (h : Only g a b) (k : Only g b c) : Only g a c :=
  ⟨k.os.trans h.os, k.tape.trans h.tape, k.output.trans h.output, Nat.le_trans h.size k.size, fun i hi hn => (k.block i (Nat.lt_of_lt_of_le hi h.size) hn).trans (h.block i hi hn)⟩
theorem Only.of_ext {g : Nat} {a b : World} (h : Ext a b) : Only g a b := ⟨h.os, h.tape, h.output, h.size, fun i hi _ => h.block i hi⟩
theorem Ext.only {g : Nat} {W a b : World} (h : Ext W a) (k : Only g a b) (hg : W.heap.size ≤ g) : Ext W b :=
  h.trans ⟨k.os, k.tape, k.output, k.size, fun i hi => k.block i (by have := h.size; omega) (fun e => by injection e; omega)⟩
theorem Blk.alloc {w : World} {g : Nat} {t : TypeId} {cs : Array Value} (h : Blk w g t cs) (o : Obj) : Blk (w.alloc o) g t cs := (Below.heap_alloc w o g h.lt).trans h
theorem Blk.new (w : World) (t : TypeId) (cs : Array Value) : Blk (w.alloc (.cells cs t)) w.heap.size t cs := heap_alloc_new w _
theorem Blk.only {w w' : World} {g b : Nat} {t : TypeId} {cs : Array Value} (h : Blk w g t cs) (ho : Only b w w') (hne : g ≠ b) : Blk w' g t cs :=
  (ho.block g h.lt (by simpa using hne)).trans h
theorem Blk.ext {w w' : World} {g : Nat} {t : TypeId} {cs : Array Value} (h : Blk w g t cs) (hx : Ext w w') : Blk w' g t cs := (hx.block g h.lt).trans h
theorem own_ne {w : World} {base : Nat} {E : TypeId} {size n : Nat} {v : Value} {xs : List Value} {g : Nat} {t : TypeId} {cs : Array Value} (h : w.ownsRow base E size v n xs) (hg : Blk w g t cs) (hne : E ≠ t) : v.ownBlock ≠ some g := by
  rcases h.2 with ⟨rfl, _⟩ | ⟨g', cap, cur, rfl, _, hh, _⟩
  · simp [Value.ownBlock]
  · intro he
    have : g' = g := by simpa [Value.ownBlock] using he
    subst this
    unfold Blk at hg
    rw [hh] at hg
    injection hg with hg
    injection hg with _ ht
    exact hne ht
theorem own_only {w w' : World} {base : Nat} {E : TypeId} {size n b : Nat} {v : Value} {xs : List Value} (h : w.ownsRow base E size v n xs) (ho : Only b w w') (hne : v.ownBlock ≠ some b) : w'.ownsRow base E size v n xs :=
  h.kept ho (.inr hne)
theorem own_drewN {w : World} {base : Nat} {E : TypeId} {size n : Nat} {v : Value} {xs : List Value} (h : w.ownsRow base E size v n xs) (k : Nat) : (w.drewN k).ownsRow base E size v n xs := h
theorem below_drewN {B : Nat} {a w : World} (h : Below B a w) (n : Nat) : Below B a (w.drewN n) := ⟨h.os, h.tape, h.output, h.size, h.block⟩
theorem below_only {B b : Nat} {a w w' : World} (h : Below B a w) (ho : Only b w w') (hb : B ≤ b) (hs : B ≤ w.heap.size) : Below B a w' :=
  h.trans ⟨ho.os, ho.tape, ho.output, ho.size, fun k hk => ho.block k (by omega) (fun e => by injection e; omega)⟩
theorem _root_.Go.World.grownBy.blk {w w' : World} {row : Option Nat} {g : Nat} {t : TypeId} {cs : Array Value} (hg : w.grownBy w' row) (h : Blk w g t cs) (hn : some g ≠ row) : Blk w' g t cs := (hg.block g h.lt hn).trans h
theorem _root_.Go.World.grownBy.frozenB {w w' : World} {row : Option Nat} {g : Nat} {t : TypeId} {cs : Array Value} (hg : w.grownBy w' row) (h : Blk w g t cs) (hn : some g ≠ row) (i : Nat) : w'.frozen? ⟨g, i, none⟩ = false := (hg.blk h hn).frozen i
theorem bytes_extract (l : List UInt8) (a b : Nat) : (⟨l.toArray⟩ : ByteArray).extract a b = ⟨((l.drop a).take (b - a)).toArray⟩ := by
  apply ByteArray.ext
  simp [List.extract_eq_take_drop]
theorem ret_ext {l : List UInt8} {a b : Nat} (_ : b ≤ l.length) : Ending.returned (.string ((⟨l.toArray⟩ : ByteArray).extract a b)) = .returned (.string ⟨((l.drop a).take (b - a)).toArray⟩) := by rw [bytes_extract]
theorem bcell {W w1 : World} (hb : Below W.heap.size W w1) : (∀ b o, b < W.heap.size → w1.cell? ⟨b, o, none⟩ = W.cell? ⟨b, o, none⟩) ∧ (∀ b o, b < W.heap.size → w1.frozen? ⟨b, o, none⟩ = W.frozen? ⟨b, o, none⟩) :=
  ⟨fun b o h => hb.cell (p := ⟨b, o, none⟩) h, fun b o h => hb.frozen (p := ⟨b, o, none⟩) h⟩
end Go.Proofs.Ytklpfhkcbhkofaa
