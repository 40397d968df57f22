
/- Walks: the order of versions. Condition: none. -/
import Derived.Test.YtcfcijgnkbmlaaaVer
namespace Go.Proofs.Ytcfcijgnkbmlaaa
open Go.RowKit

set_option maxRecDepth 100000 in
set_option maxHeartbeats 400000 in
theorem less_any (a b : Ver) (w : World) :
    Calls Try.prog 12 #[.agg #[.string a.key, .int .u64 (a.seq : Int), .bool a.del, .string a.val], .agg #[.string b.key, .int .u64 (b.seq : Int), .bool b.del, .string b.val]] w fun e w' =>
      e = .returned (.bool (lessV a.key a.seq b.key b.seq)) ∧ Below w.heap.size w w' := by
  obtain ⟨ka, sa, da, va⟩ := a
  obtain ⟨kb, sb, db, vb⟩ := b
  have hb2 : ∀ o1 o2, Below w.heap.size w ((w.alloc o1).alloc o2) := fun o1 o2 => ((Below.refl _ _).alloc (Nat.le_refl _) _).alloc (by simp) _
  unfold lessV
  cases h1 : Op.bytesLess ka.toList kb.toList
  · cases h2 : ka.toList == kb.toList
    · go_enter Try.func12, Try.ntmps12
      go_wp2_with fail
      go_ret
      exact ⟨ret_bool (by simp), hb2 _ _⟩
    · go_enter Try.func12, Try.ntmps12
      go_wp2_with fail
      go_ret
      exact ⟨ret_bool (by simp), hb2 _ _⟩
  · go_enter Try.func12, Try.ntmps12
    go_wp2_with fail
    go_ret
    exact ⟨ret_bool (by simp), hb2 _ _⟩

set_option maxRecDepth 100000 in
set_option maxHeartbeats 400000 in
theorem refLess_any (a b : Ver) (w : World) :
    Calls Try.prog 15 #[.agg #[.string a.key, .int .u64 (a.seq : Int), .bool a.del, .string a.val], .agg #[.string b.key, .int .u64 (b.seq : Int), .bool b.del, .string b.val]] w fun e w' =>
      e = .returned (.bool (lessV a.key a.seq b.key b.seq)) ∧ Below w.heap.size w w' := by
  obtain ⟨ka, sa, da, va⟩ := a
  obtain ⟨kb, sb, db, vb⟩ := b
  have hb2 : ∀ o1 o2, Below w.heap.size w ((w.alloc o1).alloc o2) := fun o1 o2 => ((Below.refl _ _).alloc (Nat.le_refl _) _).alloc (by simp) _
  unfold lessV
  cases h2 : ka.toList == kb.toList
  · go_enter Try.func15, Try.ntmps15
    go_wp2_with fail
    go_ret
    exact ⟨ret_bool (by simp), hb2 _ _⟩
  · have h1 : Op.bytesLess ka.toList kb.toList = false := by rw [eq_of_beq h2]; exact Pl.lt_irrefl _
    go_enter Try.func15, Try.ntmps15
    go_wp2_with fail
    go_ret
    exact ⟨ret_bool (by simp [h1]), hb2 _ _⟩

set_option maxRecDepth 100000 in
set_option maxHeartbeats 400000 in
theorem refPlace_any (a b : Ver) (w : World) :
    Calls Try.prog 14 #[.agg #[.string a.key, .int .u64 (a.seq : Int), .bool a.del, .string a.val], .agg #[.string b.key, .int .u64 (b.seq : Int), .bool b.del, .string b.val]] w fun e w' =>
      e = .returned (.bool (placeV a.key a.seq b.key b.seq)) ∧ Below w.heap.size w w' := by
  obtain ⟨ka, sa, da, va⟩ := a
  obtain ⟨kb, sb, db, vb⟩ := b
  have hb2 : ∀ o1 o2, Below w.heap.size w ((w.alloc o1).alloc o2) := fun o1 o2 => ((Below.refl _ _).alloc (Nat.le_refl _) _).alloc (by simp) _
  unfold placeV
  cases h2 : ka.toList == kb.toList
  · go_enter Try.func14, Try.ntmps14
    go_wp2_with fail
    go_ret
    exact ⟨ret_bool (by simp), hb2 _ _⟩
  · go_enter Try.func14, Try.ntmps14
    go_wp2_with fail
    go_ret
    exact ⟨ret_bool (by simp [nat_beq]), hb2 _ _⟩
end Go.Proofs.Ytcfcijgnkbmlaaa
