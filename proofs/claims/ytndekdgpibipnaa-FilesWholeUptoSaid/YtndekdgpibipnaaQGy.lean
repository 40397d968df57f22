
/- Walks: numbers and texts read one behind the other, from bytes that were put. Condition: none.
   Walk: a root read from its bytes. Condition: a root that may be. -/
import Derived.Test.YtndekdgpibipnaaQWRefEncRt
import Derived.Test.YtndekdgpibipnaaQGe
import Derived.Test.YtndekdgpibipnaaQGa
import Derived.Test.YtndekdgpibipnaaQGc
import Derived.Test.YtndekdgpibipnaaQApp1
import Derived.Deep.DeepCutAuto

namespace Go.Proofs.Ytndekdgpibipnaa
open Go.RowKit

theorem ret_u64 {a b : Int} (h : a = b) : Ending.returned (.int .u64 a) = .returned (.int .u64 b) := by rw [h]
theorem drop_mk (a b : List UInt8) : (ByteArray.mk (a ++ b).toArray).extract a.length (a ++ b).length = ⟨b.toArray⟩ := by
  apply ByteArray.ext
  apply Array.ext'
  simp [ByteArray.data_extract, Array.toList_extract]
/-- in W, a reader lies in the block R -/
def RdAt (W : World) (R : Nat) (l : List UInt8) : Prop := W.heap[R]? = some (.cells #[.string ⟨l.toArray⟩] 124 (0, 0))
theorem RdAt.lt {W : World} {R : Nat} {l : List UInt8} (h : RdAt W R l) : R < W.heap.size := (Array.getElem?_eq_some_iff.1 h).1
theorem RdAt.below {W W' : World} {R : Nat} {l : List UInt8} (h : RdAt W R l) (hb : Below W.heap.size W W') : RdAt W' R l := (hb.block R h.lt).trans h
theorem RdAt.set {W : World} {R : Nat} {l l' : List UInt8} (h : RdAt W R l) : RdAt (W.setCell ⟨R, 0, none⟩ (.string ⟨l'.toArray⟩)) R l' := by
  obtain ⟨hlt, hk⟩ := Array.getElem?_eq_some_iff.1 h
  show (W.heap.modify R _)[R]? = _
  rw [Array.getElem?_eq_getElem (by rw [Array.size_modify]; exact hlt), Array.getElem_modify_self, hk]
  simp
set_option maxRecDepth 100000 in
set_option maxHeartbeats 400000 in
theorem uint_ok (R n most : Nat) (rest : List UInt8) (w : World) (h : RdAt w R (Pl.putUint n ++ rest)) (hn : n ≤ most) (hm : most ≤ 18446744073709551615) (hs : (Pl.putUint n ++ rest).length ≤ 9223372036854775000) :
    Calls Try.prog 100 #[.pointer (some ⟨R, 0, none⟩), .int .u64 (most : Int)] w fun e w' => e = .returned (.int .u64 (n : Int)) ∧ RdAt w' R rest ∧ Keep (fun q => q ≠ R) w w' := by
  have c0 : w.cell? ⟨R, 0, none⟩ = some (.string ⟨(Pl.putUint n ++ rest).toArray⟩) := by simp [World.cell?, show w.heap[R]? = _ from h]
  have f0 : w.frozen? ⟨R, 0, none⟩ = false := by simp [World.frozen?, show w.heap[R]? = _ from h]
  have hz := size_mk (Pl.putUint n ++ rest)
  have P := Lib.hid (takeUint_any ⟨(Pl.putUint n ++ rest).toArray⟩ w (by rw [hz]; omega))
  rw [show (ByteArray.mk (Pl.putUint n ++ rest).toArray).data.toList = Pl.putUint n ++ rest by simp, Pl.take_put n rest (by omega)] at P
  unfold tup3 at P
  have hdr := drop_mk (Pl.putUint n) rest
  have hset := Lib.hid (h.set (l' := rest))
  have hll : (Pl.putUint n).length ≤ (Pl.putUint n ++ rest).length := by simp
  have hlt := h.lt
  obtain ⟨S, hS⟩ : ∃ S, S = ByteArray.mk (Pl.putUint n ++ rest).toArray := ⟨_, rfl⟩
  rw [← hS] at c0 P hz hdr
  have hszS : S.size = (Pl.putUint n ++ rest).length := hz
  have hle2 : (Pl.putUint n).length ≤ S.size := by rw [hszS]; exact hll
  have hdr' : Hid (S.extract (Pl.putUint n).length ((Pl.putUint n).length + rest.length) = ⟨rest.toArray⟩) := Lib.hid (by rw [← List.length_append]; exact hdr)
  clear hS hz hll h hdr
  go_enter Try.func100, Try.ntmps100
  go_wp2_with fail
  refine P.out.mono ?_
  rintro e w' ⟨rfl, rfl⟩
  go_wp2_with fail
  go_ret
  refine ⟨ret_u64 rfl, ?_, (Keep.refl _ _).setCell _ _ _ (fun h _ => h rfl)⟩
  rw [hdr'.out]
  exact hset.out
set_option maxRecDepth 100000 in
set_option maxHeartbeats 400000 in
theorem text_ok (R : Nat) (t : ByteArray) (rest : List UInt8) (w : World) (h : RdAt w R (Pl.putText t.data.toList ++ rest)) (hn : t.size ≤ 32) (hs : (Pl.putText t.data.toList ++ rest).length ≤ 9223372036854775000) :
    Calls Try.prog 101 #[.pointer (some ⟨R, 0, none⟩)] w fun e w' => e = .returned (.string t) ∧ RdAt w' R rest ∧ Keep (fun q => q ≠ R) w w' := by
  have c0 : w.cell? ⟨R, 0, none⟩ = some (.string ⟨(Pl.putText t.data.toList ++ rest).toArray⟩) := by simp [World.cell?, show w.heap[R]? = _ from h]
  have hz := size_mk (Pl.putText t.data.toList ++ rest)
  have htl : t.data.toList.length = t.size := Pl.size_data t
  have P := Lib.hid (takeText_big ⟨(Pl.putText t.data.toList ++ rest).toArray⟩ 32 w (by rw [hz]; omega) (.inr (by omega)) (by omega) (by omega))
  rw [show (ByteArray.mk (Pl.putText t.data.toList ++ rest).toArray).data.toList = Pl.putText t.data.toList ++ rest by simp, Pl.text_back' t.data.toList rest _ (by rw [htl]; exact hn) (by omega)] at P
  unfold tupS at P
  simp only [show (⟨t.data.toList.toArray⟩ : ByteArray) = t by apply ByteArray.ext; simp] at P
  have hdr := drop_mk (Pl.putText t.data.toList) rest
  have hh := Lib.hid h
  have hll : (Pl.putText t.data.toList).length ≤ (Pl.putText t.data.toList ++ rest).length := by simp
  obtain ⟨PT, hPT⟩ : ∃ PT, PT = Pl.putText t.data.toList := ⟨_, rfl⟩
  rw [← hPT] at c0 P hz hdr hh hll hs
  clear hPT h
  obtain ⟨S, hS⟩ : ∃ S, S = ByteArray.mk (PT ++ rest).toArray := ⟨_, rfl⟩
  rw [← hS] at c0 P hz hdr
  have hle2 : PT.length ≤ S.size := by rw [hz]; exact hll
  have hdr' : Hid (S.extract PT.length (PT.length + rest.length) = ⟨rest.toArray⟩) := Lib.hid (by rw [← List.length_append]; exact hdr)
  have hszS : S.size = PT.length + rest.length := by rw [hz, List.length_append]
  have hlt := hh.out.lt
  clear hS hz hll hdr htl hn
  go_enter Try.func101, Try.ntmps101
  go_wp2_with fail
  refine P.out.mono ?_
  rintro e w1 ⟨rfl, b1⟩
  have hR1 := hh.out.below b1
  have c1 : w1.cell? ⟨R, 0, none⟩ = some (.string S) := (b1.cell (p := ⟨R, 0, none⟩) hlt).trans c0
  have f1 : w1.frozen? ⟨R, 0, none⟩ = false := by simp [World.frozen?, show w1.heap[R]? = _ from hR1]
  have hset := Lib.hid (hR1.set (l' := rest))
  have hlt1 := hR1.lt
  clear hR1 P c0
  go_wp2_with fail
  go_ret
  refine ⟨by rfl, ?_, (Keep.of_below (fp := fun q => q ≠ R) b1 (fun _ h _ => by assumption)).setCell _ _ _ (fun h _ => h rfl)⟩
  rw [hdr'.out]
  exact hset.out
end Go.Proofs.Ytndekdgpibipnaa

namespace Go.Proofs.Ytndekdgpibipnaa
open Go.RowKit

/-- the cells of ints, of files -/
def icells4 (l : List Int) : List Value := l.map fun b => .int .i64 b
theorem icells4_length (l : List Int) : (icells4 l).length = l.length := by simp [icells4]
theorem icells4_snoc (l : List Int) (b : Int) : icells4 l ++ (#[Value.int .i64 b] : Array Value).toList = icells4 (l ++ [b]) := by simp [icells4]
/-- a file's cells, its blocks being the slice u -/
def fcells4 : List (Pl.FileP × Value) → List Value
  | [] => []
  | x :: l => .string x.1.name :: .int .i64 x.1.size :: x.2 :: fcells4 l
theorem fcells4_append : ∀ l r : List (Pl.FileP × Value), fcells4 (l ++ r) = fcells4 l ++ fcells4 r
  | [], _ => rfl
  | x :: l, r => by simp [fcells4, fcells4_append l r]
theorem fcells4_length : ∀ l : List (Pl.FileP × Value), (fcells4 l).length = l.length * 3
  | [] => rfl
  | x :: l => by simp only [fcells4, List.length_cons, fcells4_length l]; omega
/-- an own row of ints -/
def IOwn (W : World) (B : Nat) (u : Value) (l : List Int) : Prop := W.ownsRow B 3 1 u l.length (icells4 l)
theorem IOwn.at {W : World} {B : Nat} {u : Value} {l : List Int} (h : IOwn W B u l) : IntsAt W u l := by
  rcases id h.2 with ⟨rfl, h0⟩ | ⟨g, cap, cur, rfl, hB, hg, hnc, hcm, hcs, ht⟩
  · exact ⟨none, 0, by rw [h0], by omega, by omega, fun h => by omega⟩
  · refine ⟨some ⟨g, 0, none⟩, cap, rfl, hnc, by unfold maxLen at hcm; exact hcm, fun _ => ⟨g, 0, rfl, (Array.getElem?_eq_some_iff.1 hg).1, fun i hi => ?_⟩⟩
    rw [Nat.zero_add]
    have := h.cells (g := g) rfl i (.int .i64 l[i]) (by simp [icells4, hi])
    rw [Addr.add_lit, Nat.zero_add] at this
    exact this
theorem info_int4 : (Try.prog.info? 3).map (fun i => (i.zero, i.size, i.bytes)) = some (some (.int .i64 0), 1, 8) := by kernel_rfl
theorem info_file4 : (Try.prog.info? 74).map (fun i => (i.zero, i.size, i.bytes)) = some (some (.agg #[.string .empty, .int .i64 0, .slice none 0 0]), 3, 48) := by kernel_rfl

/-- what stands about root's rounds: the reader, the result's box, the root under way, its files -/
structure RtW (w : World) (R B0 B1 gen : Nat) (vf : Value) (l : List (Pl.FileP × Value)) (rest : List UInt8) (W : World) : Prop where
  rd : RdAt W R rest
  res : W.heap[B0]? = some (.cells #[.int .u64 0, .slice none 0 0] 50 (0, 0))
  out : W.heap[B1]? = some (.cells #[.int .u64 (gen : Int), vf] 50 (0, 0))
  row : W.ownsRow (B1 + 1) 74 3 vf l.length (fcells4 l)
  ints : ∀ x ∈ l, IOwn W (B1 + 1) x.2 x.1.blocks
  old : Keep (fun q => q ≠ R) w W
theorem RtW.lt {w : World} {R B0 B1 gen : Nat} {vf : Value} {l : List (Pl.FileP × Value)} {rest : List UInt8} {W : World} (h : RtW w R B0 B1 gen vf l rest W) : R < W.heap.size ∧ B0 < W.heap.size ∧ B1 < W.heap.size :=
  ⟨h.rd.lt, (Array.getElem?_eq_some_iff.1 h.res).1, (Array.getElem?_eq_some_iff.1 h.out).1⟩
theorem RtW.keep {w : World} {R B0 B1 gen Z : Nat} {vf : Value} {l : List (Pl.FileP × Value)} {rest rest' : List UInt8} {W W' : World} (h : RtW w R B0 B1 gen vf l rest W) (hk : Keep (fun q => q < Z ∧ q ≠ R) W W') (hZ : W.heap.size ≤ Z) (hw : w.heap.size ≤ Z) (h0 : B0 ≠ R) (h1 : R < B1) (hrd : RdAt W' R rest') : RtW w R B0 B1 gen vf l rest' W' := by
  obtain ⟨l1, l2, l3⟩ := h.lt
  refine ⟨hrd, (hk.block B0 ⟨by omega, h0⟩ l2).trans h.res, (hk.block B1 ⟨by omega, by omega⟩ l3).trans h.out, hk.ownsRow h.row (fun q e => ?_), fun x hx => hk.ownsRow (h.ints x hx) (fun q e => ?_), h.old.trans hk (fun q hq hql => ⟨by omega, hq⟩)⟩
  · have := h.row.lt q e; omega
  · have := World.ownsRow.lt (h.ints x hx) q e; omega
theorem fcells4_get : ∀ (l : List (Pl.FileP × Value)) (i : Nat) (h : i < l.length), (fcells4 l)[i * 3]? = some (.string l[i].1.name) ∧ (fcells4 l)[i * 3 + 1]? = some (.int .i64 l[i].1.size) ∧ (fcells4 l)[i * 3 + 2]? = some l[i].2
  | x :: l, 0, _ => ⟨rfl, rfl, rfl⟩
  | x :: l, i + 1, h => by
    have := fcells4_get l i (by simpa using h)
    rw [show (i + 1) * 3 = i * 3 + 1 + 1 + 1 by omega]
    simpa [fcells4] using this
theorem files_of_rows {B : Nat} {vf : Value} {l : List (Pl.FileP × Value)} {W : World} (hrow : W.ownsRow B 74 3 vf l.length (fcells4 l)) (hints : ∀ x ∈ l, IOwn W B x.2 x.1.blocks) : FilesAt W vf (l.map (·.1)) := by
  rcases id hrow.2 with ⟨rfl, h0⟩ | ⟨g, cap, cur, rfl, hB, hg, hnc, hcm, hcs, ht⟩
  · exact ⟨none, 0, by rw [List.length_map, h0], by rw [List.length_map]; omega, by omega, fun h => by rw [List.length_map] at h; omega⟩
  · refine ⟨some ⟨g, 0, none⟩, cap, by rw [List.length_map], by rw [List.length_map]; exact hnc, by unfold maxLen at hcm; exact hcm, fun _ => ⟨g, 0, rfl, (Array.getElem?_eq_some_iff.1 hg).1, fun i hi => ?_⟩⟩
    rw [Nat.zero_add]
    have hi' : i < l.length := by rwa [List.length_map] at hi
    obtain ⟨c0, c1, c2⟩ := fcells4_get l i hi'
    have d0 := hrow.cells (g := g) rfl _ _ c0
    have d1 := hrow.cells (g := g) rfl _ _ c1
    have d2 := hrow.cells (g := g) rfl _ _ c2
    rw [Addr.add_lit, Nat.zero_add] at d0 d1 d2
    rw [List.getElem_map]
    exact ⟨d0, d1, l[i].2, d2, IOwn.at (hints l[i] (List.getElem_mem hi'))⟩
theorem RtW.files {w : World} {R B0 B1 gen : Nat} {vf : Value} {l : List (Pl.FileP × Value)} {rest : List UInt8} {W : World} (h : RtW w R B0 B1 gen vf l rest W) : FilesAt W vf (l.map (·.1)) := files_of_rows h.row h.ints
theorem RtW.filesKeep {w : World} {R B0 B1 gen : Nat} {vf : Value} {l : List (Pl.FileP × Value)} {rest : List UInt8} {W W' : World} {fp : Nat → Prop} (h : RtW w R B0 B1 gen vf l rest W) (hk : Keep fp W W') (hf : ∀ q, B1 < q → fp q) : FilesAt W' vf (l.map (·.1)) :=
  files_of_rows (hk.ownsRow h.row (fun q e => hf q (by have := h.row.lt q e; omega))) (fun x hx => hk.ownsRow (h.ints x hx) (fun q e => hf q (by have := World.ownsRow.lt (h.ints x hx) q e; omega)))
theorem root_loadVar {W : World} {b : Nat} {g : Int} {v : Value} (hc : W.heap[b]? = some (.cells #[.int .u64 g, v] 50 (0, 0))) : (loadVar 50 ⟨b, 0, none⟩).run Try.prog W = .ok (.agg #[.int .u64 g, v]) W :=
  run_loadVar_mid (P := Try.prog) W b 0 50 [.int .u64 g, v] _ (fun j u hj => by
    rcases j with _ | _ | j
    · obtain rfl : Value.int .u64 g = u := by simpa using hj
      simp [World.cell?, hc]
    · obtain rfl : v = u := by simpa using hj
      simp [World.cell?, hc]
    · simp at hj) Try.underlying50 rfl (by kernel_rfl)
theorem results_root {fn : Func} {p : Tmp} (h : fn.results = #[.cell p 50]) {tmps : Array Value} {b : Nat} {g : Int} {v : Value} {w : World} (hp : tmps.getD p undef = .pointer (some ⟨b, 0, none⟩)) (hc : w.heap[b]? = some (.cells #[.int .u64 g, v] 50 (0, 0))) :
    (results fn tmps).run Try.prog w = .ok (.agg #[.int .u64 g, v]) w := by
  have hp' : tmps[p]?.getD undef = .pointer (some ⟨b, 0, none⟩) := by simpa using hp
  simp [results, h, hp', asAddr, root_loadVar hc]
theorem heap_two {W : World} {b : Nat} {x y u v : Value} {t : TypeId} (h : W.heap[b]? = some (.cells #[x, y] t (0, 0))) : ((W.setCell ⟨b, 0, none⟩ u).setCell ⟨b, 1, none⟩ v).heap[b]? = some (.cells #[u, v] t (0, 0)) := by
  simp [World.setCell, Array.getElem?_modify, h]

/-- what stands about a file's rounds: the reader, the file's box, its blocks so far -/
structure FlW (wr : World) (R B2 : Nat) (nm : ByteArray) (szn : Nat) (vb : Value) (done : List Int) (rest : List UInt8) (W : World) : Prop where
  rd : RdAt W R rest
  box : W.heap[B2]? = some (.cells #[.string nm, .int .i64 (szn : Int), vb] 74 (0, 0))
  row : IOwn W (B2 + 1) vb done
  old : Keep (fun q => q < B2 ∧ q ≠ R) wr W
theorem FlW.keepR {wr : World} {R B2 szn : Nat} {nm : ByteArray} {vb : Value} {done : List Int} {rest rest' : List UInt8} {W W' : World} (h : FlW wr R B2 nm szn vb done rest W) (hk : Keep (fun q => q ≠ R) W W') (hR : R < B2) (hrd : RdAt W' R rest') : FlW wr R B2 nm szn vb done rest' W' := by
  have l2 := (Array.getElem?_eq_some_iff.1 h.box).1
  exact ⟨hrd, (hk.block B2 (show B2 ≠ R by omega) l2).trans h.box, hk.ownsRow h.row (fun q e => by have := World.ownsRow.lt h.row q e; omega), h.old.trans hk (fun q h _ => h.2)⟩

theorem rows_apart4 {W : World} {B B' s s' n n' : Nat} {e e' : TypeId} {v v' : Value} {xs xs' : List Value} (h : W.ownsRow B e s v n xs) (h' : W.ownsRow B' e' s' v' n' xs') (he : e ≠ e') (q : Nat) (hq : v.ownBlock = some q) : v'.ownBlock ≠ some q := by
  rcases h.2 with ⟨rfl, _⟩ | ⟨g, cap, cur, rfl, _, hg, _⟩
  · cases hq
  · rcases h'.2 with ⟨rfl, _⟩ | ⟨g', cap', cur', rfl, _, hg', _⟩
    · intro e; cases e
    · simp only [Value.ownBlock, Option.some.injEq] at hq ⊢
      intro e2
      subst hq
      cases e2
      rw [hg] at hg'
      injection hg' with hg'
      injection hg' with _ e3
      exact he e3
theorem row_base {W : World} {B B' s n : Nat} {e : TypeId} {v : Value} {xs : List Value} (h : W.ownsRow B e s v n xs) (hB : B' ≤ B) : W.ownsRow B' e s v n xs := by
  refine ⟨h.1, h.2.imp id ?_⟩
  rintro ⟨g, cap, cur, e1, e2, e3⟩
  exact ⟨g, cap, cur, e1, Nat.le_trans hB e2, e3⟩
theorem keep_app {W w1 : World} {v : Value} {o : Obj} (hgrow : (W.alloc o).grownBy w1 v.ownBlock) : Keep (fun q => v.ownBlock ≠ some q) W w1 :=
  ((Keep.refl _ W).alloc o).trans (fp' := fun q => v.ownBlock ≠ some q) (Keep.of_grownBy hgrow (fun k e _ hf => hf e)) (fun _ h _ => h)
theorem keep_set (W : World) (b o : Nat) (v : Value) : Keep (fun q => q ≠ b) W (W.setCell ⟨b, o, none⟩ v) := (Keep.refl _ _).setCell _ _ _ (fun h _ => h rfl)
theorem FlW.app {wr : World} {R B2 szn : Nat} {nm : ByteArray} {vb : Value} {done : List Int} {rest : List UInt8} {W w1 : World} {b : Int} {g cap : Nat} {o : Obj} (h : FlW wr R B2 nm szn vb done rest W) (hR : R < B2) (hB : B2 ≤ W.heap.size)
    (hown : w1.ownsRow (B2 + 1) 3 1 (.slice (some ⟨g, 0, none⟩) (done.length + 1) cap) (done.length + 1) (icells4 done ++ (#[.int .i64 b] : Array Value).toList)) (hgrow : (W.alloc o).grownBy w1 vb.ownBlock) :
    w1.frozen? ⟨B2, 2, none⟩ = false ∧ w1.cell? ⟨B2, 2, none⟩ = some vb ∧ B2 < w1.heap.size ∧ FlW wr R B2 nm szn (.slice (some ⟨g, 0, none⟩) (done.length + 1) cap) (done ++ [b]) rest (w1.setCell ⟨B2, 2, none⟩ (.slice (some ⟨g, 0, none⟩) (done.length + 1) cap)) := by
  have l2 := (Array.getElem?_eq_some_iff.1 h.box).1
  have hk := keep_app hgrow
  have hlow : ∀ q, q ≤ B2 → vb.ownBlock ≠ some q := fun q hq e => by have := World.ownsRow.lt h.row q e; omega
  have hbox := (hk.block B2 (hlow _ (Nat.le_refl _)) l2).trans h.box
  have hrd := (hk.block R (hlow _ (by omega)) h.rd.lt).trans h.rd
  have hs := keep_set w1 B2 2 (.slice (some ⟨g, 0, none⟩) (done.length + 1) cap)
  refine ⟨by simp [World.frozen?, hbox], by simp [World.cell?, hbox], (Array.getElem?_eq_some_iff.1 hbox).1, ?_, ?_, ?_, ?_⟩
  · exact (hs.block R (show R ≠ B2 by omega) (Array.getElem?_eq_some_iff.1 hrd).1).trans hrd
  · simp [World.setCell, Array.getElem?_modify, hbox]
  · rw [icells4_snoc] at hown
    unfold IOwn
    rw [List.length_append, List.length_singleton]
    exact hs.ownsRow hown (fun q e => by have := hown.lt q e; omega)
  · exact (h.old.trans hk (fun q h _ => hlow q (by omega))).trans hs (fun q h _ => by omega)
theorem RtW.app {w : World} {R B0 B1 gen : Nat} {vf vb : Value} {l : List (Pl.FileP × Value)} {x : Pl.FileP} {rest : List UInt8} {W w1 : World} {B2 g cap : Nat} {o : Obj} (h : RtW w R B0 B1 gen vf l rest W) (hR : R < B1) (h0 : B0 < B1) (h2 : B1 ≤ B2) (hw : w.heap.size ≤ B1) (hi : IOwn W (B2 + 1) vb x.blocks)
    (hown : w1.ownsRow (B1 + 1) 74 3 (.slice (some ⟨g, 0, none⟩) (l.length + 1) cap) (l.length + 1) (fcells4 l ++ (#[.string x.name, .int .i64 x.size, vb] : Array Value).toList)) (hgrow : (W.alloc o).grownBy w1 vf.ownBlock) :
    w1.frozen? ⟨B1, 1, none⟩ = false ∧ w1.cell? ⟨B1, 1, none⟩ = some vf ∧ B1 < w1.heap.size ∧ RtW w R B0 B1 gen (.slice (some ⟨g, 0, none⟩) (l.length + 1) cap) (l ++ [(x, vb)]) rest (w1.setCell ⟨B1, 1, none⟩ (.slice (some ⟨g, 0, none⟩) (l.length + 1) cap)) := by
  obtain ⟨l1, l2, l3⟩ := h.lt
  have hk := keep_app hgrow
  have hlow : ∀ q, q ≤ B1 → vf.ownBlock ≠ some q := fun q hq e => by have := h.row.lt q e; omega
  have hbox := (hk.block B1 (hlow _ (Nat.le_refl _)) l3).trans h.out
  have hrd := (hk.block R (hlow _ (by omega)) l1).trans h.rd
  have hres := (hk.block B0 (hlow _ (by omega)) l2).trans h.res
  have hs := keep_set w1 B1 1 (.slice (some ⟨g, 0, none⟩) (l.length + 1) cap)
  have hne : 3 ≠ 74 := by decide
  refine ⟨by simp [World.frozen?, hbox], by simp [World.cell?, hbox], (Array.getElem?_eq_some_iff.1 hbox).1, ?_, ?_, ?_, ?_, ?_, ?_⟩
  · exact (hs.block R (show R ≠ B1 by omega) (Array.getElem?_eq_some_iff.1 hrd).1).trans hrd
  · exact (hs.block B0 (show B0 ≠ B1 by omega) (Array.getElem?_eq_some_iff.1 hres).1).trans hres
  · simp [World.setCell, Array.getElem?_modify, hbox]
  · rw [List.length_append, List.length_singleton, fcells4_append]
    exact hs.ownsRow hown (fun q e => by have := hown.lt q e; omega)
  · intro y hy
    have hy' : IOwn W (B1 + 1) y.2 y.1.blocks := by
      rcases List.mem_append.1 hy with hy | hy
      · exact h.ints y hy
      · obtain rfl := List.mem_singleton.1 hy
        exact row_base hi (by omega)
    exact hs.ownsRow (hk.ownsRow hy' (fun q e => rows_apart4 hy' h.row hne q e)) (fun q e => by have := World.ownsRow.lt hy' q e; omega)
  · exact (h.old.trans hk (fun q h _ => hlow q (by omega))).trans hs (fun q h _ => by omega)

set_option maxRecDepth 100000 in
set_option maxHeartbeats 1600000 in
theorem root_ok (R : Nat) (r : Pl.RootP) (N : Int) (w : World) (hm : Pl.May N r) (hN : N ≤ 16384) (hR : RdAt w R (Pl.rootBytes r)) :
    Calls Try.prog 74 #[.pointer (some ⟨R, 0, none⟩)] w fun e w' => ∃ u, e = .returned (.agg #[.int .u64 (r.gen : Int), u]) ∧ (∀ W3, Keep (fun q => w.heap.size ≤ q) w' W3 → FilesAt W3 u r.files) ∧ Keep (fun q => q ≠ R) w w' := by
  have hg1 := hm.g1
  have hg2 := hm.g2
  have hmany := hm.many
  have hmb := Lib.hid (fun (x : Pl.FileP) (hx : x ∈ r.files) => hm.blocks hN hx)
  have hsz := Pl.prefix_le hm hN r.files.length
  rw [List.take_of_length_le (Nat.le_refl _)] at hsz
  have hrb : Pl.rootBytes r = Pl.putUint r.gen ++ (Pl.putUint r.files.length ++ r.files.flatMap Pl.fileBytes) := by unfold Pl.rootBytes; rw [List.append_assoc]
  rw [hrb] at hR
  simp only [List.length_append] at hsz
  clear hrb hm
  obtain ⟨W0, hW0⟩ : ∃ W0, w.alloc (.cells #[.int .u64 0, .slice none 0 0] 50) = W0 := ⟨_, rfl⟩
  have hb0 : Below w.heap.size w W0 := by rw [← hW0]; exact (Below.refl _ _).alloc (Nat.le_refl _) _
  have hB0 : W0.heap[w.heap.size]? = some (.cells #[.int .u64 0, .slice none 0 0] 50 (0, 0)) := by rw [← hW0]; exact World.alloc_heap_new _ _
  have hRl := hR.lt
  have P1 := Lib.hid (uint_ok R r.gen 4611686018427387904 _ W0 (hR.below hb0) (by omega) (by omega) (by simp only [List.length_append]; omega))
  go_enter Try.func74, Try.ntmps74
  go_wp2_with fail
  clear hW0
  refine P1.out.mono ?_
  rintro e w1 ⟨rfl, hR1, hk1⟩
  have hz0 : w.heap.size < W0.heap.size := (Array.getElem?_eq_some_iff.1 hB0).1
  have hB1 := (hk1.block w.heap.size (by omega) hz0).trans hB0
  clear P1
  have P2 := Lib.hid (fun (W : World) (h : RdAt W R (Pl.putUint r.files.length ++ r.files.flatMap Pl.fileBytes)) => uint_ok R r.files.length 64 _ W h (by omega) (by omega) (by simp only [List.length_append]; omega))
  have hb1 : Below w1.heap.size w1 (w1.alloc (.cells #[.int .u64 (r.gen : Int), .slice none 0 0] 50)) := (Below.refl _ _).alloc (Nat.le_refl _) _
  have hO1 : (w1.alloc (.cells #[.int .u64 (r.gen : Int), .slice none 0 0] 50)).heap[w1.heap.size]? = some (.cells #[.int .u64 (r.gen : Int), .slice none 0 0] 50 (0, 0)) := World.alloc_heap_new _ _
  go_wp2_with fail
  generalize w1.alloc (.cells #[.int .u64 (r.gen : Int), .slice none 0 0] 50) = W1 at hb1 hO1 ⊢
  refine (P2.out W1 (hR1.below hb1)).mono ?_
  clear P2
  rintro e w2 ⟨rfl, hR2, hk2⟩
  have hz1 : w1.heap.size < W1.heap.size := (Array.getElem?_eq_some_iff.1 hO1).1
  have hRw1 := hR1.lt
  have hO2 := (hk2.block w1.heap.size (show w1.heap.size ≠ R by omega) hz1).trans hO1
  have hk02 : Keep (fun q => q ≠ R) W0 w2 := (hk1.trans (Keep.of_below (fp := fun q => q ≠ R ∧ q < w1.heap.size) hb1 (fun _ h _ => h.2)) (fun q h hq => ⟨h, Nat.lt_of_lt_of_le hq hk1.size⟩)).trans hk2 (fun q h _ => h)
  have hB2 := (hk02.block w.heap.size (show w.heap.size ≠ R by omega) hz0).trans hB0
  have hz02 := hk1.size
  have hz12 := hk2.size
  clear hB0 hB1 hO1 hk1 hk2 hR1 hb1 hR
  have hRt0 : RtW w R w.heap.size w1.heap.size r.gen (.slice none 0 0) [] (r.files.flatMap Pl.fileBytes) w2 :=
    ⟨hR2, hB2, hO2, World.ownsRow_nil _ _ _ _, (fun x hx => by cases hx), (Keep.of_below (fp := fun q => q ≠ R ∧ q < w.heap.size) hb0 (fun _ h _ => h.2)).trans hk02 (fun q h _ => h.1) |>.mono (fun q h hq => ⟨h, hq⟩)⟩
  go_wp2_with fail
  clear hR2 hB2 hO2 hk02
  go_loopw [12] (fun ix W' => ∃ (i : Nat) (l : List (Pl.FileP × Value)) (vf : Value), i ≤ r.files.length ∧ ix = .int .u64 (i : Int) ∧ l.map (·.1) = r.files.take i ∧ RtW w R w.heap.size w1.heap.size r.gen vf l ((r.files.drop i).flatMap Pl.fileBytes) W') (fun ix _ => r.files.length - (intOf ix).toNat)
  case atStart => exact ⟨0, [], _, Nat.zero_le _, rfl, rfl, hRt0⟩
  case round =>
    obtain ⟨i, l, vf, hi, rfl, hl, hRt⟩ := hrel
    by_cases hil : i < r.files.length
    case neg =>
      obtain rfl : i = r.files.length := by omega
      rw [List.take_of_length_le (Nat.le_refl _)] at hl
      rw [List.drop_length, List.flatMap_nil] at hRt
      have c0 : wr.cell? ⟨R, 0, none⟩ = some (.string ⟨#[]⟩) := by simp [World.cell?, show wr.heap[R]? = _ from hRt.rd]
      have o0 : wr.cell? ⟨w1.heap.size, 0, none⟩ = some (.int .u64 (r.gen : Int)) := by simp [World.cell?, hRt.out]
      have o1 : wr.cell? ⟨w1.heap.size, 1, none⟩ = some vf := by simp [World.cell?, hRt.out]
      obtain ⟨fg, fcap, hvf⟩ : ∃ g cap, vf = .slice g l.length cap := by
        obtain ⟨ao, cap, e, _⟩ := hRt.files
        rw [List.length_map] at e
        exact ⟨ao, cap, e⟩
      subst hvf
      have s0 : wr.cell? ⟨w.heap.size, 0, none⟩ = some (.int .u64 0) := by simp [World.cell?, hRt.res]
      have s1 : wr.cell? ⟨w.heap.size, 1, none⟩ = some (.slice none 0 0) := by simp [World.cell?, hRt.res]
      have t0 : wr.frozen? ⟨w.heap.size, 0, none⟩ = false := by simp [World.frozen?, hRt.res]
      have t1 : wr.frozen? ⟨w.heap.size, 1, none⟩ = false := by simp [World.frozen?, hRt.res]
      have hE := Lib.hid (heap_two (u := .int .u64 (r.gen : Int)) (v := .slice fg l.length fcap) hRt.res)
      have hF := Lib.hid hRt.files
      have hK := Lib.hid hRt.old
      have hrt := Lib.hid hRt
      go_wp2
      refine bodyPost_ret (results_root rfl rfl hE.out) rfl ⟨_, rfl, ?_, ?_⟩
      · intro W3 hk3
        have := hrt.out.filesKeep (W' := W3) (fp := fun q => w1.heap.size < q) (((((Keep.refl (fun q => w1.heap.size < q) _).setCell w.heap.size 0 (.int .u64 (r.gen : Int)) (fun h _ => by omega)).setCell w.heap.size 1 (.slice fg l.length fcap) (fun h _ => by omega))).trans hk3 (fun q h _ => by omega)) (fun q h => h)
        rwa [hl] at this
      · exact (hK.out.setCell _ _ _ (fun _ h => by omega)).setCell _ _ _ (fun _ h => by omega)
    obtain ⟨hbl1, hbl2, hsz1, hsz2, hnm⟩ := hmb.out _ (List.getElem_mem hil)
    have hdr := Pl.flat_drop (f := Pl.fileBytes) hil
    have hdl : ((r.files.drop i).flatMap Pl.fileBytes).length ≤ 100000000 := by
      have := Pl.flat_take_le (f := Pl.fileBytes) r.files i
      have h2 : (r.files.flatMap Pl.fileBytes).length = ((r.files.take i).flatMap Pl.fileBytes).length + ((r.files.drop i).flatMap Pl.fileBytes).length := by
        conv => lhs; rw [← List.take_append_drop i r.files, List.flatMap_append, List.length_append]
      omega
    have htk : Hid (r.files.take (i + 1) = r.files.take i ++ [r.files[i]]) := Lib.hid (List.take_succ_eq_append_getElem hil)
    rw [hdr] at hRt hdl
    obtain ⟨RST, hRST⟩ : ∃ RST, RST = (r.files.drop (i + 1)).flatMap Pl.fileBytes := ⟨_, rfl⟩
    rw [← hRST] at hRt hdl
    replace hRST := Lib.hid hRST
    replace hl := Lib.hid hl
    clear hdr
    generalize r.files[i] = x at *
    obtain ⟨nm, sz, bl⟩ := x
    simp only at hbl1 hbl2 hsz1 hsz2 hnm
    obtain ⟨szn, rfl⟩ := Int.eq_ofNat_of_zero_le hsz1
    have hfb : Pl.fileBytes ⟨nm, (szn : Int), bl⟩ ++ RST = Pl.putText nm.data.toList ++ (Pl.putUint szn ++ (Pl.putUint (Pl.runsOf bl).length ++ ((Pl.runsOf bl).flatMap Pl.runBytes ++ RST))) := by
      unfold Pl.fileBytes
      simp only [Int.toNat_natCast, List.append_assoc]
    rw [hfb] at hRt
    rw [hfb] at hdl
    simp only [List.length_append] at hdl
    clear hfb
    have hrl := Pl.runsOf_length bl.length bl (Nat.le_refl _)
    have hrt := Lib.hid hRt
    have P1 := Lib.hid (text_ok R nm _ wr hRt.rd hnm (by simp only [List.length_append]; omega))
    obtain ⟨l1, l2, l3⟩ := hRt.lt
    clear hRt
    go_wp2_with fail
    refine P1.out.mono ?_
    rintro e wa ⟨rfl, hRa, hka⟩
    clear P1
    have P2 := Lib.hid (uint_ok R szn 4194304 _ wa hRa (by omega) (by omega) (by simp only [List.length_append]; omega))
    go_wp2_with fail
    refine P2.out.mono ?_
    rintro e wb ⟨rfl, hRb, hkb⟩
    clear P2
    have hkab : Keep (fun q => q ≠ R) wr wb := hka.trans hkb (fun _ h _ => h)
    have hwi : IntKind.i64.wrap (szn : Int) = (szn : Int) := IntWalk.i64_in _ (by omega)
    have P3 := Lib.hid (fun (W : World) (h : RdAt W R (Pl.putUint (Pl.runsOf bl).length ++ ((Pl.runsOf bl).flatMap Pl.runBytes ++ RST))) => uint_ok R (Pl.runsOf bl).length 16384 _ W h (by omega) (by omega) (by simp only [List.length_append]; omega))
    have hbf : Below wb.heap.size wb (wb.alloc (.cells #[.string nm, .int .i64 (szn : Int), .slice none 0 0] 74)) := (Below.refl _ _).alloc (Nat.le_refl _) _
    have hFf : (wb.alloc (.cells #[.string nm, .int .i64 (szn : Int), .slice none 0 0] 74)).heap[wb.heap.size]? = some (.cells #[.string nm, .int .i64 (szn : Int), .slice none 0 0] 74 (0, 0)) := World.alloc_heap_new _ _
    go_wp2_with fail
    generalize wb.alloc (.cells #[.string nm, .int .i64 (szn : Int), .slice none 0 0] 74) = wf at hbf hFf ⊢
    refine (P3.out wf (hRb.below hbf)).mono ?_
    rintro e wg ⟨rfl, hRg, hkg⟩
    clear P3
    have hRbl := hRb.lt
    have hfl : wb.heap.size < wf.heap.size := (Array.getElem?_eq_some_iff.1 hFf).1
    have hFg := (hkg.block wb.heap.size (show wb.heap.size ≠ R by omega) hfl).trans hFf
    have hkfg : Keep (fun q => q < wb.heap.size ∧ q ≠ R) wr wg := (hkab.mono (fun q h _ => h.2)).trans ((Keep.of_below (fp := fun q => q < wb.heap.size ∧ q ≠ R) hbf (fun q h _ => h.1)).trans hkg (fun q h _ => h.2)) (fun q h _ => h)
    have hzb := hkab.size
    have hzg := hkg.size
    clear hFf hbf hkg hRb hka hkb hRa hkab
    have hFl0 : FlW wr R wb.heap.size nm szn (.slice none 0 0) [] ((Pl.runsOf bl).flatMap Pl.runBytes ++ RST) wg := ⟨hRg, hFg, World.ownsRow_nil _ _ _ _, hkfg⟩
    have hrm := Lib.hid (fun (y : Int × Nat) (hy : y ∈ Pl.runsOf bl) => Pl.mem_runs bl.length bl y (Nat.le_refl _) hy)
    have hbm := Lib.hid hbl2
    have hex := Lib.hid (Pl.expand_runs bl.length bl (Nat.le_refl _))
    have hRB : R < wb.heap.size := by omega
    clear hRg hFg hkfg hbl2
    go_wp2_with fail
    generalize wb.heap.size = B2 at *
    obtain ⟨RL, hRL⟩ : ∃ RL, RL = Pl.runsOf bl := ⟨_, rfl⟩
    rw [← hRL] at hFl0 hrm hex hrl hdl ⊢
    clear hRL
    obtain ⟨wo, rfl⟩ : ∃ wo : World, wo = wr := ⟨_, rfl⟩
    go_loopw [22] (fun ix W' => ∃ (t : Nat) (vb : Value), t ≤ RL.length ∧ ix = .int .u64 (t : Int) ∧ FlW wo R B2 nm szn vb ((RL.take t).flatMap Pl.runL) ((RL.drop t).flatMap Pl.runBytes ++ RST) W') (fun ix _ => RL.length - (intOf ix).toNat)
    case atStart => exact ⟨0, _, Nat.zero_le _, rfl, hFl0⟩
    case round =>
      obtain ⟨t, vb, ht, rfl, hFl⟩ := hrel
      by_cases htl : t < RL.length
      case neg =>
        obtain rfl : t = RL.length := by omega
        rw [List.take_of_length_le (Nat.le_refl _), List.drop_length, List.flatMap_nil, List.nil_append, hex.out] at hFl
        have hRt2 := hrt.out.keep hFl.old hzb (by omega) (by omega) (by omega) hFl.rd
        obtain ⟨fg, fcap, hvf⟩ : ∃ g cap, vf = .slice g l.length cap := by
          obtain ⟨ao, cap, e, _⟩ := hRt2.files
          rw [List.length_map] at e
          exact ⟨ao, cap, e⟩
        subst hvf
        obtain ⟨bg, bcap, hvb⟩ : ∃ g cap, vb = .slice g bl.length cap := by
          obtain ⟨ao, cap, e, _⟩ := hFl.row.at
          exact ⟨ao, cap, e⟩
        subst hvb
        have c0 : wr.cell? ⟨B2, 0, none⟩ = some (.string nm) := by simp [World.cell?, hFl.box]
        have c1 : wr.cell? ⟨B2, 1, none⟩ = some (.int .i64 (szn : Int)) := by simp [World.cell?, hFl.box]
        have c2 : wr.cell? ⟨B2, 2, none⟩ = some (.slice bg bl.length bcap) := by simp [World.cell?, hFl.box]
        have o1 : wr.cell? ⟨w1.heap.size, 1, none⟩ = some (.slice fg l.length fcap) := by simp [World.cell?, hRt2.out]
        have hrow := hRt2.row
        have hBl := (Array.getElem?_eq_some_iff.1 hFl.box).1
        have hll : l.length = i := by
          have := congrArg List.length hl.out
          rwa [List.length_map, List.length_take, Nat.min_eq_left hi] at this
        have hlk : (l.length + 1) * 48 ≤ 140737488355328 := by omega
        have hwk1 : IntKind.u64.wrap ((i : Int) + 1) = (i : Int) + 1 := IntWalk.u64_in _ (by omega)
        have hA := Lib.hid (fun (w3 : World) (g cap : Nat) (o : Obj) h1 (h2 : (wr.alloc o).grownBy w3 (Value.slice fg l.length fcap).ownBlock) => hRt2.app (w1 := w3) (x := ⟨nm, (szn : Int), bl⟩) (vb := .slice bg bl.length bcap) (B2 := B2) (g := g) (cap := cap) (o := o) (by omega) (by omega) (by omega) (by omega) hFl.row h1 h2)
        have hB3 : w1.heap.size + 1 ≤ wr.heap.size := by omega
        replace hll := Lib.hid hll
        clear hFl hRt2
        go_wp2_with (at_builtin; go_must (refine wpList_app1 (by rfl) _ _ 48 (by rfl) (w1.heap.size + 1) 74 (.agg #[.string .empty, .int .i64 0, .slice none 0 0]) 3 48 Try.underlying48 info_file4 rfl (by decide) (.slice fg l.length fcap) l.length (fcells4 l) wr hrow hB3 (by rfl) #[.string nm, .int .i64 (szn : Int), .slice bg bl.length bcap] 74 (by rfl) rfl (by simp [Value.oneCell']) hlk (by decide) ?_; intro g cap w3 hown' hgrow hat hg; have ⟨z1, q1, y1, hF⟩ := hA.out w3 g cap _ hown' hgrow; replace hF := Lib.hid hF))
        refine ⟨⟨i + 1, l ++ [(⟨nm, (szn : Int), bl⟩, .slice bg bl.length bcap)], .slice (some ⟨g, 0, none⟩) (l.length + 1) cap, by omega, by go_num, ?_, ?_⟩, by simp [intOf]; omega⟩
        · rw [List.map_append, hl.out, htk.out]; rfl
        · rw [← hRST.out]; exact hF.out
      obtain ⟨hm1, hm2⟩ := hrm.out _ (List.getElem_mem htl)
      have hab := hbm.out _ hm1
      have hdt := Pl.flat_drop (f := Pl.runBytes) htl
      have htt := Lib.hid (Pl.flat_take_succ (f := Pl.runL) htl)
      have hlt2 := Pl.flat_take_le (f := Pl.runL) RL (t + 1)
      rw [hex.out, htt.out, List.length_append] at hlt2
      have hdl2 : ((RL.drop t).flatMap Pl.runBytes).length ≤ (RL.flatMap Pl.runBytes).length := by
        have h2 : (RL.flatMap Pl.runBytes).length = ((RL.take t).flatMap Pl.runBytes).length + ((RL.drop t).flatMap Pl.runBytes).length := by
          conv => lhs; rw [← List.take_append_drop t RL, List.flatMap_append, List.length_append]
        omega
      rw [hdt] at hFl hdl2
      clear hdt hm1
      generalize RL[t] = y at *
      obtain ⟨ay, ny⟩ := y
      simp only at hm2 hab
      obtain ⟨an, rfl⟩ := Int.eq_ofNat_of_zero_le (by omega : 0 ≤ ay)
      have hrn : (Pl.runL ((an : Int), ny)).length = ny := by simp [Pl.runL]
      rw [hrn] at hlt2
      generalize (RL.take t).flatMap Pl.runL = done at *
      obtain ⟨RST2, hRST2⟩ : ∃ RST2, RST2 = (RL.drop (t + 1)).flatMap Pl.runBytes ++ RST := ⟨_, rfl⟩
      have hbytes : Pl.runBytes ((an : Int), ny) ++ (RL.drop (t + 1)).flatMap Pl.runBytes ++ RST = Pl.putUint an ++ (Pl.putUint ny ++ RST2) := by
        rw [hRST2]; simp [Pl.runBytes]
      rw [hbytes] at hFl
      have hblen : (Pl.putUint an ++ (Pl.putUint ny ++ RST2)).length ≤ 1000000000 := by
        rw [← hbytes, List.length_append]
        omega
      replace hRST2 := Lib.hid hRST2
      clear hbytes hdl2
      simp only [List.length_append] at hblen
      have hfl := Lib.hid hFl
      have P1 := Lib.hid (uint_ok R an 16384 _ _ hFl.rd (by omega) (by omega) (by simp only [List.length_append]; omega))
      clear hFl
      go_wp2_with fail
      refine P1.out.mono ?_
      rintro e wa ⟨rfl, hRa, hka⟩
      clear P1
      have hwa : IntKind.i64.wrap (an : Int) = (an : Int) := IntWalk.i64_in _ (by omega)
      have P2 := Lib.hid (uint_ok R ny 16384 _ wa hRa (by omega) (by omega) (by simp only [List.length_append]; omega))
      go_wp2_with fail
      refine P2.out.mono ?_
      rintro e wb ⟨rfl, hRb, hkb⟩
      clear P2
      have hwn : IntKind.i64.wrap (ny : Int) = (ny : Int) := IntWalk.i64_in _ (by omega)
      have hFl1 := hfl.out.keepR (hka.trans hkb (fun _ h _ => h)) hRB hRb
      clear hRa hRb hka hkb
      go_wp2_with fail
      go_loopw [30] (fun ix W' => ∃ (k : Nat) (vb : Value), k ≤ ny ∧ ix = .int .i64 (k : Int) ∧ FlW wo R B2 nm szn vb (done ++ Pl.runL ((an : Int), k)) RST2 W') (fun ix _ => ny - (intOf ix).toNat)
      case atStart => exact ⟨0, _, Nat.zero_le _, rfl, by simpa [Pl.runL] using hFl1⟩
      case round =>
        obtain ⟨k, vb, hk, rfl, hFl⟩ := hrel
        by_cases hkn : k < ny
        case neg =>
          obtain rfl : k = ny := by omega
          go_wp2_with fail
          refine ⟨⟨t + 1, vb, by omega, by go_num, ?_⟩, by simp [intOf]; omega⟩
          rw [htt.out, ← hRST2.out]
          exact hFl
        have hLl : (done ++ Pl.runL ((an : Int), k)).length = done.length + k := by simp [Pl.runL]
        have hsucc := Lib.hid (Pl.runL_succ (an : Int) k)
        generalize hL : done ++ Pl.runL ((an : Int), k) = L at hFl hLl
        replace hL := Lib.hid hL
        have hL1 : ((L.length : Int) == 16384) = false := by simp; omega
        have hwk : IntKind.i64.wrap ((an : Int) + (k : Int)) = (an : Int) + (k : Int) := IntWalk.i64_in _ (by omega)
        have hwk1 : IntKind.i64.wrap ((k : Int) + 1) = (k : Int) + 1 := IntWalk.i64_in _ (by omega)
        obtain ⟨fg, fcap, hvf⟩ : ∃ g cap, vb = .slice g L.length cap := by
          obtain ⟨ao, cap, e, _⟩ := hFl.row.at
          exact ⟨ao, cap, e⟩
        subst hvf
        have c2 : wr.cell? ⟨B2, 2, none⟩ = some (.slice fg L.length fcap) := by simp [World.cell?, hFl.box]
        have hBl := (Array.getElem?_eq_some_iff.1 hFl.box).1
        have hrow : wr.ownsRow (B2 + 1) 3 1 (.slice fg L.length fcap) L.length (icells4 L) := hFl.row
        have hlk : (L.length + 1) * 8 ≤ 140737488355328 := by omega
        replace hLl := Lib.hid hLl
        have hA := Lib.hid (fun (w1 : World) (g cap : Nat) (o : Obj) h1 (h2 : (wr.alloc o).grownBy w1 (Value.slice fg L.length fcap).ownBlock) => hFl.app (w1 := w1) (b := (an : Int) + (k : Int)) (g := g) (cap := cap) (o := o) hRB (by omega) h1 h2)
        have hB3 : B2 + 1 ≤ wr.heap.size := hBl
        clear hFl
        go_wp2_with (at_builtin; go_must (refine wpList_app1 (by rfl) _ _ 41 (by rfl) (B2 + 1) 3 (.int .i64 0) 1 8 Try.underlying41 info_int4 rfl (by decide) (.slice fg L.length fcap) L.length (icells4 L) wr hrow hB3 (by rfl) #[.int .i64 ((an : Int) + (k : Int))] 3 (by rfl) rfl (by simp [Value.oneCell']) hlk (by decide) ?_; intro g cap w1 hown' hgrow hat hg; have ⟨z1, q1, y1, hF⟩ := hA.out w1 g cap _ hown' hgrow; replace hF := Lib.hid hF))
        refine ⟨⟨k + 1, .slice (some ⟨g, 0, none⟩) (L.length + 1) cap, by omega, by go_num, ?_⟩, by simp [intOf]; omega⟩
        rw [hsucc.out, ← List.append_assoc, hL.out]
        exact hF.out
end Go.Proofs.Ytndekdgpibipnaa
