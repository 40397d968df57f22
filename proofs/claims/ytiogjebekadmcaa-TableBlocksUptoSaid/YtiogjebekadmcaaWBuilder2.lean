
/- Walks: a text joined to a writer's builder; its text at the end. Condition: bytes that fit. -/
import Derived.Test.YtiogjebekadmcaaWBuilder
namespace Go.Proofs.Ytiogjebekadmcaa
open Go.RowKit

/-- a writer in the block b, and beside it a version in its variable, the block c -/
def vcells (x : Ver) : Array Value := #[.string x.key, .int .u64 (x.seq : Int), .bool x.del, .string x.val]
def WrBx (b c : Nat) (x : Ver) (p : Value) (l : List UInt8) (cnt : Int) (ah : ByteArray) (w : World) : Prop :=
  ∃ v, w.heap[b]? = some (.cells #[p, v, .int .i64 cnt, .string ah] 101 (0, 0)) ∧ w.ownsRow (b + 1) 5 1 v l.length (bcells l) ∧ c ≠ b ∧ w.heap[c]? = some (.cells (vcells x) 44 (0, 0))
theorem lt_of_block {w : World} {b : Nat} {o : Obj} (h : w.heap[b]? = some o) : b < w.heap.size := (Array.getElem?_eq_some_iff.1 h).1
theorem ne_row {w : World} {b c : Nat} {cs : Array Value} {v : Value} {n : Nat} {xs : List Value} (h : w.ownsRow b 5 1 v n xs) (hc : w.heap[c]? = some (.cells cs 44 (0, 0))) : v.ownBlock ≠ some c := by
  intro e
  rcases h.2 with ⟨rfl, _⟩ | ⟨g, cap, cur, rfl, _, hg, _⟩
  · cases e
  · have : g = c := by simpa [Value.ownBlock] using e
    subst this
    rw [hg] at hc
    injection hc with hc
    injection hc with _ h2 _
    exact absurd h2 (by decide)
theorem WrAt.box {b : Nat} {p : Value} {l : List UInt8} {cnt : Int} {ah : ByteArray} {w : World} (h : WrAt b p l cnt ah w) (x : Ver) :
    WrBx b w.heap.size x p l cnt ah (w.alloc (.cells #[.string x.key, .int .u64 (x.seq : Int), .bool x.del, .string x.val] 44)) := by
  obtain ⟨v, hb, hown⟩ := h
  have hl := lt_of_block hb
  exact ⟨v, (Lib.alloc_old w _ b hl).trans hb, hown.alloc _, by omega, heap_alloc_new w _⟩
theorem WrBx.at {b c : Nat} {x : Ver} {p : Value} {l : List UInt8} {cnt : Int} {ah : ByteArray} {w : World} (h : WrBx b c x p l cnt ah w) : WrAt b p l cnt ah w := by
  obtain ⟨v, hb, hown, _⟩ := h
  exact ⟨v, hb, hown⟩
theorem WrBx.ver {b c : Nat} {x : Ver} {p : Value} {l : List UInt8} {cnt : Int} {ah : ByteArray} {w : World} (h : WrBx b c x p l cnt ah w) : VrAt c x.key (x.seq : Int) x.del x.val w := by
  obtain ⟨v, _, _, _, hc⟩ := h
  exact ⟨by rw [Lib.cell_of_heap hc]; rfl, by rw [Lib.cell_of_heap hc]; rfl, by rw [Lib.cell_of_heap hc]; rfl, by rw [Lib.cell_of_heap hc]; rfl, lt_of_block hc⟩
theorem WrBx.kept {b c : Nat} {x : Ver} {p : Value} {l : List UInt8} {cnt : Int} {ah : ByteArray} {w w' : World} (h : WrBx b c x p l cnt ah w) (hb : Below w.heap.size w w') : WrBx b c x p l cnt ah w' := by
  obtain ⟨v, hbk, hown, hc, hx⟩ := h
  exact ⟨v, (hb.block b (lt_of_block hbk)).trans hbk, hown.kept (row := none) ⟨hb.os, hb.tape, hb.output, hb.size, fun k hk _ => hb.block k hk⟩ (by cases v.ownBlock <;> simp), hc, (hb.block c (lt_of_block hx)).trans hx⟩
theorem WrAt.kept {b : Nat} {p : Value} {l : List UInt8} {cnt : Int} {ah : ByteArray} {w w' : World} (h : WrAt b p l cnt ah w) (hb : Below w.heap.size w w') : WrAt b p l cnt ah w' := by
  obtain ⟨v, hbk, hown⟩ := h
  exact ⟨v, (hb.block b (lt_of_block hbk)).trans hbk, hown.kept (row := none) ⟨hb.os, hb.tape, hb.output, hb.size, fun k hk _ => hb.block k hk⟩ (by cases v.ownBlock <;> simp)⟩
theorem blk_other {c b i : Nat} {q : Value} {w : World} (hc : c ≠ b) : (w.setCell ⟨b, i, none⟩ q).heap[c]? = w.heap[c]? := Below.heap_setCell _ _ _ _ (by simp; omega)
theorem own_other {b i : Nat} {v q : Value} {n : Nat} {xs : List Value} {w : World} (h : w.ownsRow (b + 1) 5 1 v n xs) : (w.setCell ⟨b, i, none⟩ q).ownsRow (b + 1) 5 1 v n xs :=
  h.kept (row := some b) ⟨rfl, rfl, rfl, by simp [World.setCell], fun k _ hk => Below.heap_setCell _ _ _ _ (fun e => hk (by simp [e]))⟩ (Or.inr (WrAt.ne h))
theorem WrBx.setP {b c : Nat} {x : Ver} {p : Value} {l : List UInt8} {cnt : Int} {ah : ByteArray} {w : World} (h : WrBx b c x p l cnt ah w) (q : Value) : WrBx b c x q l cnt ah (w.setCell ⟨b, 0, none⟩ q) := by
  obtain ⟨v, hb, hown, hc, hx⟩ := h
  exact ⟨v, by simp [World.setCell, Array.getElem?_modify, hb], own_other hown, hc, (blk_other hc).trans hx⟩
theorem WrBx.setCnt {b c : Nat} {x : Ver} {p : Value} {l : List UInt8} {cnt : Int} {ah : ByteArray} {w : World} (h : WrBx b c x p l cnt ah w) (q : Int) : WrBx b c x p l q ah (w.setCell ⟨b, 2, none⟩ (.int .i64 q)) := by
  obtain ⟨v, hb, hown, hc, hx⟩ := h
  exact ⟨v, by simp [World.setCell, Array.getElem?_modify, hb], own_other hown, hc, (blk_other hc).trans hx⟩
theorem WrBx.setAh {b c : Nat} {x : Ver} {p : Value} {l : List UInt8} {cnt : Int} {ah : ByteArray} {w : World} (h : WrBx b c x p l cnt ah w) (q : ByteArray) : WrBx b c x p l cnt q (w.setCell ⟨b, 3, none⟩ (.string q)) := by
  obtain ⟨v, hb, hown, hc, hx⟩ := h
  exact ⟨v, by simp [World.setCell, Array.getElem?_modify, hb], own_other hown, hc, (blk_other hc).trans hx⟩
/-- a builder's own address, or none yet -/
def Hd (b : Nat) (p : Value) : Prop := p = .pointer none ∨ p = .pointer (some ⟨b, 0, none⟩)

theorem copyCheck_any (b c : Nat) (x : Ver) (p : Value) (l : List UInt8) (cnt : Int) (ah : ByteArray) (w : World) (h : WrBx b c x p l cnt ah w) (hp : Hd b p) :
    Calls Try.prog 77 #[.pointer (some ⟨b, 0, none⟩)] w fun e w' => e = .returned (.tuple #[]) ∧ WrBx b c x (.pointer (some ⟨b, 0, none⟩)) l cnt ah w' ∧ Below b w w' := by
  obtain ⟨v, hb, _⟩ := id h
  rcases hp with rfl | rfl
  · refine (copyCheck_fresh b w (by rw [Lib.cell_of_heap hb]; rfl) (by simp [World.shape?, hb]) (Lib.frozen_of_heap hb 0)).mono ?_
    rintro e w' ⟨rfl, rfl⟩
    exact ⟨rfl, h.setP _, (Below.refl b w).setCell (p := ⟨b, 0, none⟩) (Nat.le_refl _) _⟩
  · refine (copyCheck_used b w (by rw [Lib.cell_of_heap hb]; rfl)).mono ?_
    rintro e w' ⟨rfl, rfl⟩
    exact ⟨rfl, h, Below.refl _ _⟩

theorem strCells_eq (s : ByteArray) : Lib.strCells s = bcells s.data.toList := rfl
theorem info_u8b : (Try.prog.info? 5).map (fun i => (i.zero, i.size, i.bytes)) = some (some (.int .u8 0), 1, 1) := by kernel_rfl

set_option maxRecDepth 100000 in
set_option maxHeartbeats 800000 in
theorem writeString_any (b c : Nat) (x : Ver) (p : Value) (l : List UInt8) (cnt : Int) (ah : ByteArray) (s : ByteArray) (w : World) (h : WrBx b c x p l cnt ah w) (hp : Hd b p) (hlen : l.length + s.size ≤ 140737488355328) :
    Calls Try.prog 71 #[.pointer (some ⟨b, 0, none⟩), .string s] w fun e w' => e = .returned (.tuple #[.int .i64 s.size, .nilIface]) ∧ WrBx b c x (.pointer (some ⟨b, 0, none⟩)) (l ++ s.data.toList) cnt ah w' ∧ Below b w w' := by
  obtain ⟨i0, hi, hz0, hz1, hz2⟩ := info_parts info_u8b
  go_enter Try.func71, Try.ntmps71
  go_wp2_with (go_at_call 77; refine (copyCheck_any b c x p l cnt ah _ h hp).mono ?_)
  rintro e w1 ⟨rfl, h1, hb1⟩
  obtain ⟨v, hbk, hown, hc, hx⟩ := h1
  have c0 : w1.cell? ⟨b, 0, none⟩ = some (.pointer (some ⟨b, 0, none⟩)) := by rw [Lib.cell_of_heap hbk]; rfl
  have c1 : w1.cell? ⟨b, 1, none⟩ = some v := by rw [Lib.cell_of_heap hbk]; rfl
  have hlt := lt_of_block hbk
  go_wp2_with (at_builtin; refine Lib.wpList_append_own_string _ rfl _ _ 90 9 rfl (b + 1) 5 i0 Try.underlying90 Try.underlying9 hi hz0 hz1 hz2 _ _ _ rfl hown s rfl ?c3 ?c4 ?c5 ?_)
  case c3 => unfold maxLen; omega
  case c4 => omega
  case c5 => omega
  intro v' w2 hown' hgrow _
  have hb2 : w2.heap[b]? = some (.cells #[.pointer (some ⟨b, 0, none⟩), v, .int .i64 cnt, .string ah] 101 (0, 0)) := by
    rw [hgrow.block b hlt (fun e => WrAt.ne hown e.symm)]
    exact hbk
  have d0 : w2.cell? ⟨b, 0, none⟩ = some (.pointer (some ⟨b, 0, none⟩)) := by rw [Lib.cell_of_heap hb2]; rfl
  have d1 : w2.cell? ⟨b, 1, none⟩ = some v := by rw [Lib.cell_of_heap hb2]; rfl
  have f1 : w2.frozen? ⟨b, 1, none⟩ = false := Lib.frozen_of_heap hb2 1
  obtain ⟨ao, n', cap, rfl⟩ : ∃ ao n' cap, v' = .slice ao n' cap := by
    rcases hown'.2 with ⟨hv, _⟩ | ⟨g, cap, cur, hv, _⟩
    · exact ⟨_, _, _, hv⟩
    · exact ⟨_, _, _, hv⟩
  have hcb : w2.heap[c]? = some (.cells (vcells x) 44 (0, 0)) := (hgrow.block c (lt_of_block hx) (fun e => ne_row hown hx e.symm)).trans hx
  go_wp2
  go_ret2
  refine ⟨rfl, ⟨.slice ao n' cap, ?_, ?_, hc, (blk_other hc).trans hcb⟩, ?_⟩
  · simp [World.setCell, Array.getElem?_modify, hb2]
  · have := own_other (b := b) (i := 1) (q := .slice ao n' cap) hown'
    rw [strCells_eq, ← bcells_append] at this
    simpa using this
  · exact (hb1.grown hgrow (by have := hb1.size; omega) (fun k hk => by have := (hown.lt k hk).1; omega)).setCell (p := ⟨b, 1, none⟩) (Nat.le_refl _) _
end Go.Proofs.Ytiogjebekadmcaa
