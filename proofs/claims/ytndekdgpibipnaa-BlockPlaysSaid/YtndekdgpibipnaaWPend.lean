
/- Walks: a disk of blocks in memory: what is awaited. Condition: lengths that memory lets. -/
import Derived.Test.YtndekdgpibipnaaWDev5
namespace Go.Proofs.Ytndekdgpibipnaa
open Go.RowKit

/-- the cells of numbers -/
def icells (l : List Int) : List Value := l.map (Value.int .i64)
theorem icells_set (l : List Int) (i : Nat) (x : Int) : (icells l).set i (.int .i64 x) = icells (l.set i x) := by simp [icells, List.map_set]
theorem info_int : (Try.prog.info? 3).map (fun i => (i.zero, i.size, i.bytes)) = some (some (.int .i64 0), 1, 8) := by kernel_rfl
/-- 'make([]int, n)' -/
theorem make_ints (n : Nat) (hn : n ≤ 35184372088832) (w : World) :
    (Instr.makeSlice 41 (.int .i64 (n : Int)) (.int .i64 (n : Int))).run Try.prog w = .ok (.slice (some ⟨w.heap.size, 0, none⟩) n n) (w.alloc (.cells (icells (List.replicate n 0)).toArray 3)) := by
  obtain ⟨i, hi, hz0, hz1, hz2⟩ := info_parts info_int
  have h := run_make (P := Try.prog) w 41 3 i (.int .i64 0) Try.underlying41 hi hz0 .i64 .i64 (n : Int) (n : Int) (by omega) (by omega) (by rw [hz2]; omega) (by omega)
  have e : madeCells (Value.int .i64 0).cells (n * i.size) = (icells (List.replicate n 0)).toArray := by
    rw [hz1]
    apply Array.ext
    · rw [size_madeCells]; simp [icells]
    · intro j h1 h2
      have hj : j < n := by simpa [icells] using h2
      simp [madeCells, icells, Value.cells, Nat.mod_one]
  simp only [Int.toNat_natCast] at h
  rw [e] at h
  exact h
/-- the first k numbers laid -/
def pend (l : List Int) (k : Nat) : List Int := l.take k ++ List.replicate (l.length - k) 0
theorem pend_zero (l : List Int) : pend l 0 = List.replicate l.length 0 := by simp [pend]
theorem pend_all (l : List Int) : pend l l.length = l := by simp [pend]
theorem pend_length (l : List Int) {k : Nat} (h : k ≤ l.length) : (pend l k).length = l.length := by simp [pend]; omega
theorem pend_set {l : List Int} {k : Nat} (h : k < l.length) : (pend l k).set k l[k] = pend l (k + 1) := by
  obtain ⟨r, hr⟩ : ∃ r, l.length - k = r + 1 := ⟨l.length - k - 1, by omega⟩
  have hr' : l.length - (k + 1) = r := by omega
  unfold pend
  rw [hr, hr', List.set_append, if_neg (by rw [List.length_take]; omega), List.take_succ_eq_append_getElem h, List.append_assoc]
  rw [List.length_take, Nat.min_eq_left (Nat.le_of_lt h), Nat.sub_self]
  simp [List.replicate_succ]

variable {B d : Nat} {s : Pl.Dv} {fp : Nat → Prop} {W : World}
theorem blk_icells {w : World} {b : Nat} {l : List Int} (h : Blk w b (icells l).toArray 3) {i : Nat} (hi : i < l.length) : w.cell? ⟨b, i, none⟩ = some (.int .i64 l[i]) := by
  rw [h.cell]; simp [icells, hi]
theorem blk_iset {w : World} {b : Nat} {l : List Int} (h : Blk w b (icells l).toArray 3) (i : Nat) (x : Int) : Blk (w.setCell ⟨b, i, none⟩ (.int .i64 x)) b (icells (l.set i x)).toArray 3 := by
  have := h.set i (.int .i64 x)
  rwa [List.setIfInBounds_toArray, icells_set] at this

set_option maxRecDepth 100000 in
theorem pending_any (h : DevAt B d s fp W) (hw : s.wait.length ≤ 35184372088832) : Calls Try.prog 23 #[.pointer (some ⟨d, 0, none⟩)] W fun e w' =>
    e = .returned (.slice (some ⟨W.heap.size, 0, none⟩) s.wait.length s.wait.length) ∧ Blk w' W.heap.size (icells (s.wait.map fun p => (p.1 : Int))).toArray 3 ∧ Below W.heap.size W w' := by
  obtain ⟨gs, cs, vp, m, h⟩ := h
  have c1 := h.blk.cell 1
  simp at c1
  obtain ⟨ao, cap, hvp, hat⟩ := h.wait_at
  subst hvp
  have hmk := make_ints s.wait.length hw
  obtain ⟨L, hL⟩ : ∃ L, L = s.wait.map fun p => (p.1 : Int) := ⟨_, rfl⟩
  have hlen : L.length = s.wait.length := by rw [hL]; simp
  have hget : ∀ k (hk : k < s.wait.length) (hl : k < L.length), L[k]'hl = (s.wait[k].1 : Int) := fun k hk hl => by subst hL; simp
  rw [← hL]
  obtain ⟨W0, hW0⟩ : ∃ W0, W0 = W.alloc (.cells (icells (List.replicate s.wait.length 0)).toArray 3) := ⟨_, rfl⟩
  have hB0 : Blk W0 W.heap.size (icells (pend L 0)).toArray 3 := by rw [pend_zero, hlen, hW0]; exact Blk.new W _ _
  have hb0 : Below W.heap.size W W0 := by rw [hW0]; exact (Below.refl _ _).alloc (Nat.le_refl _) _
  have c1' : W0.cell? ⟨d, 1, none⟩ = some (.slice ao s.wait.length cap) := (hb0.cell h.blk.lt).trans c1
  rw [hW0] at c1'
  have hlt := h.lt
  clear hL
  go_enter Try.func23, Try.ntmps23
  go_wp2
  rw [← hW0]
  rw [← hW0] at c1'
  clear hW0 hmk
  go_loopw [4, 5, 19] (fun _ _ i wr => ∃ k : Nat, k ≤ s.wait.length ∧ i = .int .i64 k ∧ Blk wr W.heap.size (icells (pend L k)).toArray 3 ∧ Below W.heap.size W wr) (fun _ _ i _ => s.wait.length - (intOf i).toNat)
  case atStart => exact ⟨0, by omega, rfl, hB0, hb0⟩
  case round =>
    obtain ⟨k, hk, rfl, hB, hb⟩ := hrel
    clear hB0 hb0
    by_cases h3 : k < s.wait.length
    · obtain ⟨g, rfl, hat2⟩ := hat (by omega)
      obtain ⟨x0, x1⟩ := hat2 k h3
      have hgW : g < W.heap.size := hlt g (h.fvp g rfl)
      replace x0 := (hb.cell (p := ⟨g, k * 2, none⟩) hgW).trans x0
      replace x1 := (hb.cell (p := ⟨g, k * 2 + 1, none⟩) hgW).trans x1
      have hgk := hget k h3 (by omega)
      clear hat hat2 hget c1'
      generalize s.wait[k] = p at x0 x1 hgk
      obtain ⟨i, x⟩ := p
      simp only at x0 x1 hgk
      have hBa := hB.alloc (.cells #[.int .i64 (i : Int), .string x] 95)
      have hba := hb.alloc hb.size (.cells #[.int .i64 (i : Int), .string x] 95)
      have cc := blk_icells hBa (i := k) (by rw [pend_length L (by omega)]; omega)
      have zz := hBa.frozen k
      have hBs := blk_iset hBa k (i : Int)
      rw [← hgk, pend_set (by omega), hgk] at hBs
      have hbs : Below W.heap.size W ((wr.alloc (.cells #[.int .i64 (i : Int), .string x] 95)).setCell ⟨W.heap.size, k, none⟩ (.int .i64 (i : Int))) := hba.setCell (Nat.le_refl _) _
      clear hB hb hBa hba hgk
      go_wp2
      go_roundw
      case rel => exact ⟨k + 1, by omega, by go_num, hBs, hbs⟩
      case measure => simp [intOf]; omega
    · obtain rfl : k = s.wait.length := by omega
      rw [← hlen, pend_all] at hB
      go_wp2
      go_ret
      exact ⟨rfl, hB, hb⟩
end Go.Proofs.Ytndekdgpibipnaa
