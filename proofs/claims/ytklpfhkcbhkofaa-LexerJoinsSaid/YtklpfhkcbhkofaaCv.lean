
/- Strings: sums, and a string of one byte. -/
import Derived.Test.YtklpfhkcbhkofaaWd
namespace Go.Proofs.Ytklpfhkcbhkofaa
open Go.RowKit
theorem bytes_append (a b : List UInt8) : (⟨a.toArray⟩ : ByteArray) ++ ⟨b.toArray⟩ = ⟨(a ++ b).toArray⟩ := by
  apply ByteArray.ext
  simp
theorem conv_one {P : Program} (src dst e : TypeId) (hs : P.underlying src = some (.slice e)) (he : P.underlying e = some (.int .u8)) (hd : P.underlying dst = some .string) (W : World) (v : Int) :
    (convert src dst (.slice (some ⟨W.heap.size, 0, none⟩) 1 1)).run P (W.alloc (.cells #[.int .u8 v] e)) = .ok (.string ⟨#[UInt8.ofNat v.toNat]⟩) (W.alloc (.cells #[.int .u8 v] e)) := by
  rw [run_convert_bytes_string _ _ _ e _ _ _ hs he hd, run_bytesToString _ _ _ _ [v]]
  · rfl
  · have hc : (W.alloc (.cells #[.int .u8 v] e)).cell? ⟨W.heap.size, 0, none⟩ = some (.int .u8 v) := by rw [cell_of_row _ _ _ _ _ _ (heap_alloc_new W _)]; rfl
    simp [loadCells, go_sem, hc]
end Go.Proofs.Ytklpfhkcbhkofaa
