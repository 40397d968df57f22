
/- Walks: words as bytes. Condition: none. -/
import Derived.Test.YtndekdgpibipnaaWMisc
namespace Go.Proofs.Ytndekdgpibipnaa
open Go.RowKit

theorem big_own (n : Nat) (w : World) : Own w.heap.size 5 1 (.slice (some ⟨w.heap.size, 0, none⟩) 8 8) 8 (bcells (Pl.big n)) w
    (w.alloc (.cells #[.int .u8 ((n : Int) / 72057594037927936 % 256), .int .u8 ((n : Int) / 281474976710656 % 256), .int .u8 ((n : Int) / 1099511627776 % 256), .int .u8 ((n : Int) / 4294967296 % 256), .int .u8 ((n : Int) / 16777216 % 256), .int .u8 ((n : Int) / 65536 % 256), .int .u8 ((n : Int) / 256 % 256), .int .u8 ((n : Int) % 256)] 5)) := by
  refine ⟨?_, (Below.refl _ _).alloc (Nat.le_refl _) _, by simp⟩
  have h := World.ownsRow_lit (base := w.heap.size) (e := 5) (size := 1) w #[.int .u8 ((n : Int) / 72057594037927936 % 256), .int .u8 ((n : Int) / 281474976710656 % 256), .int .u8 ((n : Int) / 1099511627776 % 256), .int .u8 ((n : Int) / 4294967296 % 256), .int .u8 ((n : Int) / 16777216 % 256), .int .u8 ((n : Int) / 65536 % 256), .int .u8 ((n : Int) / 256 % 256), .int .u8 ((n : Int) % 256)] 8 (Nat.le_refl _) (by decide) rfl
  have e : bcells (Pl.big n) = (#[.int .u8 ((n : Int) / 72057594037927936 % 256), .int .u8 ((n : Int) / 281474976710656 % 256), .int .u8 ((n : Int) / 1099511627776 % 256), .int .u8 ((n : Int) / 4294967296 % 256), .int .u8 ((n : Int) / 16777216 % 256), .int .u8 ((n : Int) / 65536 % 256), .int .u8 ((n : Int) / 256 % 256), .int .u8 ((n : Int) % 256)] : Array Value).toList := by
    simp only [bcells, Pl.big, List.map_cons, List.map_nil, Pl.byte_mod]
    simp
  rw [e]
  exact h

theorem big_own' (n : Nat) (w : World) : Own w.heap.size 5 1 (.slice (some ⟨w.heap.size, 0, none⟩) 8 8) 8 (bcells (Pl.big n)) w
    (w.alloc (.cells #[.int .u8 ((n : Int) / 256 / 256 / 256 / 256 / 256 / 256 / 256 % 256), .int .u8 ((n : Int) / 256 / 256 / 256 / 256 / 256 / 256 % 256), .int .u8 ((n : Int) / 256 / 256 / 256 / 256 / 256 % 256), .int .u8 ((n : Int) / 256 / 256 / 256 / 256 % 256), .int .u8 ((n : Int) / 256 / 256 / 256 % 256), .int .u8 ((n : Int) / 256 / 256 % 256), .int .u8 ((n : Int) / 256 % 256), .int .u8 ((n : Int) % 256)] 5)) := by
  rw [show (n : Int) / 256 / 256 / 256 / 256 / 256 / 256 / 256 = (n : Int) / 72057594037927936 from by omega, show (n : Int) / 256 / 256 / 256 / 256 / 256 / 256 = (n : Int) / 281474976710656 from by omega, show (n : Int) / 256 / 256 / 256 / 256 / 256 = (n : Int) / 1099511627776 from by omega, show (n : Int) / 256 / 256 / 256 / 256 = (n : Int) / 4294967296 from by omega, show (n : Int) / 256 / 256 / 256 = (n : Int) / 16777216 from by omega, show (n : Int) / 256 / 256 = (n : Int) / 65536 from by omega]
  exact big_own n w

end Go.Proofs.Ytndekdgpibipnaa
