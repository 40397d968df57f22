
/- Tables, live tables and edits: plainly, and in memory. Condition: none. -/
import Derived.Test.YtekfaodjadinnaaFp
import Derived.Test.YtekfaodjadinnaaOwn
import Derived.Test.YtekfaodjadinnaaApp1
import Derived.Test.YtekfaodjadinnaaPlainE
import Derived.Lib.MinMaxS
namespace Go.Proofs.Ytekfaodjadinnaa
open Go.RowKit

namespace Pl
structure Tb where
  num : Nat
  level : Int
  size : Int
  count : Int
  least : ByteArray
  greatest : ByteArray
instance : Inhabited Tb := ⟨⟨0, 0, 0, 0, .empty, .empty⟩⟩
structure Tb.fine (x : Tb) : Prop where
  num : x.num ≤ 18446744073709551615
  level : -9223372036854775808 ≤ x.level ∧ x.level ≤ 9223372036854775807
  size : -9223372036854775808 ≤ x.size ∧ x.size ≤ 9223372036854775807
  count : -9223372036854775808 ≤ x.count ∧ x.count ≤ 9223372036854775807
structure Ed where
  next : Nat
  seq : Nat
  log : Nat
  add : List Tb
  drop : List Nat
instance : Inhabited Ed := ⟨⟨0, 0, 0, [], []⟩⟩
structure Ed.fine (e : Ed) : Prop where
  next : e.next ≤ 18446744073709551615
  seq : e.seq ≤ 18446744073709551615
  log : e.log ≤ 18446744073709551615
  add : ∀ x ∈ e.add, x.fine
  drop : ∀ n ∈ e.drop, n ≤ 18446744073709551615
structure Lv where
  next : Nat
  seq : Nat
  log : Nat
  t : Nat → List Tb
structure Lv.fine (e : Lv) : Prop where
  next : e.next ≤ 18446744073709551615
  seq : e.seq ≤ 18446744073709551615
  log : e.log ≤ 18446744073709551615
  t : ∀ k, k < 4 → ∀ x ∈ e.t k, x.fine
def Lv.zero : Lv := ⟨0, 0, 0, fun _ => []⟩
theorem Lv.zero_fine : Lv.zero.fine := ⟨by decide, by decide, by decide, fun _ _ _ h => by cases h⟩
/-- is a text not behind another one? -/
def leS (p q : ByteArray) : Bool := !Op.bytesLess q.toList p.toList
theorem leS_or (p q : ByteArray) : (Op.bytesLess p.toList q.toList || p.toList == q.toList) = leS p q := by
  unfold leS
  cases h : Op.bytesLess q.toList p.toList
  · by_cases e : p.toList = q.toList
    · simp [e]
    · simp [lt_total h (fun e' => e e'.symm)]
  · cases h1 : Op.bytesLess p.toList q.toList
    · have : (p.toList == q.toList) = false := by
        cases h2 : p.toList == q.toList
        · rfl
        · have e : p.toList = q.toList := by simpa using h2
          rw [e, lt_irrefl] at h
          cases h
      simp [this]
    · have := lt_trans h h1
      rw [lt_irrefl] at this
      cases this
end Pl

/-- a table's cells -/
def tcell (x : Pl.Tb) : List Value := [.int .u64 (x.num : Int), .int .i64 x.level, .int .i64 x.size, .int .i64 x.count, .string x.least, .string x.greatest]
def tcells : List Pl.Tb → List Value
  | [] => []
  | x :: l => .int .u64 (x.num : Int) :: .int .i64 x.level :: .int .i64 x.size :: .int .i64 x.count :: .string x.least :: .string x.greatest :: tcells l
theorem tcells_length : ∀ l : List Pl.Tb, (tcells l).length = l.length * 6
  | [] => rfl
  | x :: l => by simp only [tcells, List.length_cons, tcells_length l]; omega
theorem tcells_append : ∀ l r : List Pl.Tb, tcells (l ++ r) = tcells l ++ tcells r
  | [], _ => rfl
  | x :: l, r => by simp [tcells, tcells_append l r]
theorem tcells_get : ∀ (l : List Pl.Tb) (i : Nat) (h : i < l.length), ∀ j, j < 6 → (tcells l)[i * 6 + j]? = (tcell l[i])[j]?
  | x :: l, 0, _, j, hj => by
    rcases j with _ | _ | _ | _ | _ | _ | j
    all_goals first | rfl | omega
  | x :: l, i + 1, h, j, hj => by
    have := tcells_get l i (by simpa using h) j hj
    rw [show (i + 1) * 6 + j = i * 6 + j + 1 + 1 + 1 + 1 + 1 + 1 by omega]
    simpa [tcells] using this
theorem tcells_one : ∀ l : List Pl.Tb, ∀ u ∈ tcells l, u.oneCell' = true
  | [], u, h => by cases h
  | x :: l, u, h => by
    simp only [tcells, List.mem_cons] at h
    rcases h with rfl | rfl | rfl | rfl | rfl | rfl | h
    all_goals first | rfl | exact tcells_one l u h
theorem tcells_take : ∀ (l : List Pl.Tb) (n : Nat), tcells (l.take n) = (tcells l).take (n * 6)
  | [], n => by simp [tcells]
  | x :: l, 0 => by simp [tcells]
  | x :: l, n + 1 => by
    rw [List.take_succ_cons, show (n + 1) * 6 = n * 6 + 1 + 1 + 1 + 1 + 1 + 1 by omega]
    simp [tcells, tcells_take l n]

theorem row_base {W : World} {B B' s n : Nat} {e : TypeId} {v : Value} {xs : List Value} (h : W.ownsRow B e s v n xs) (hB : B' ≤ B) : W.ownsRow B' e s v n xs := by
  refine ⟨h.1, h.2.imp id ?_⟩
  rintro ⟨g, cap, cur, e1, e2, e3⟩
  exact ⟨g, cap, cur, e1, Nat.le_trans hB e2, e3⟩

/-- in W, a table lies from o on in the block b -/
structure TbIn (W : World) (b o : Nat) (x : Pl.Tb) : Prop where
  c0 : W.cell? ⟨b, o, none⟩ = some (.int .u64 (x.num : Int))
  c1 : W.cell? ⟨b, o + 1, none⟩ = some (.int .i64 x.level)
  c2 : W.cell? ⟨b, o + 2, none⟩ = some (.int .i64 x.size)
  c3 : W.cell? ⟨b, o + 3, none⟩ = some (.int .i64 x.count)
  c4 : W.cell? ⟨b, o + 4, none⟩ = some (.string x.least)
  c5 : W.cell? ⟨b, o + 5, none⟩ = some (.string x.greatest)
theorem TbIn.block {W W' : World} {b o : Nat} {x : Pl.Tb} (h : TbIn W b o x) (e : W'.heap[b]? = W.heap[b]?) : TbIn W' b o x :=
  ⟨(World.cell?_of_block (a := ⟨b, o, none⟩) e).trans h.c0, (World.cell?_of_block (a := ⟨b, o + 1, none⟩) e).trans h.c1, (World.cell?_of_block (a := ⟨b, o + 2, none⟩) e).trans h.c2, (World.cell?_of_block (a := ⟨b, o + 3, none⟩) e).trans h.c3, (World.cell?_of_block (a := ⟨b, o + 4, none⟩) e).trans h.c4, (World.cell?_of_block (a := ⟨b, o + 5, none⟩) e).trans h.c5⟩
theorem TbIn.of {W : World} {b o : Nat} {x : Pl.Tb} (h : ∀ j u, (tcell x)[j]? = some u → W.cell? ⟨b, o + j, none⟩ = some u) : TbIn W b o x :=
  ⟨h 0 _ rfl, h 1 _ rfl, h 2 _ rfl, h 3 _ rfl, h 4 _ rfl, h 5 _ rfl⟩
theorem TbIn.get {W : World} {b o : Nat} {x : Pl.Tb} (h : TbIn W b o x) : ∀ j u, (tcell x)[j]? = some u → W.cell? ⟨b, o + j, none⟩ = some u := by
  intro j u hj
  rcases j with _ | _ | _ | _ | _ | _ | j
  · cases hj; exact h.c0
  · cases hj; exact h.c1
  · cases hj; exact h.c2
  · cases hj; exact h.c3
  · cases hj; exact h.c4
  · cases hj; exact h.c5
  · simp [tcell] at hj

/-- in W, v is a slice of these tables (an argument's: where it is empty its address may be any) -/
def TbsIn (W : World) (v : Value) (l : List Pl.Tb) : Prop :=
  ∃ (ao : Option Addr) (cap : Nat), v = .slice ao l.length cap ∧ l.length ≤ cap ∧ cap ≤ 9223372036854775807 ∧ (0 < l.length → ∃ b off, ao = some ⟨b, off, none⟩ ∧ b < W.heap.size ∧ ∀ i (hi : i < l.length), TbIn W b (off + i * 6) l[i])
theorem TbsIn.below {W W' : World} {v : Value} {l : List Pl.Tb} (h : TbsIn W v l) (hb : Below W.heap.size W W') : TbsIn W' v l := by
  obtain ⟨ao, cap, rfl, h1, h2, h⟩ := h
  refine ⟨ao, cap, rfl, h1, h2, fun h0 => ?_⟩
  obtain ⟨b, off, rfl, hlt, hc⟩ := h h0
  exact ⟨b, off, rfl, Nat.lt_of_lt_of_le hlt hb.size, fun i hi => (hc i hi).block (hb.block b hlt)⟩
/-- in W, v is a slice of these tables -/
def TbsAt (W : World) (v : Value) (l : List Pl.Tb) : Prop :=
  ∃ (ao : Option Addr) (cap : Nat), v = .slice ao l.length cap ∧ l.length ≤ cap ∧ cap ≤ 9223372036854775807 ∧ ((ao = none ∧ cap = 0) ∨ ∃ b off, ao = some ⟨b, off, none⟩) ∧ (0 < l.length → ∃ b off, ao = some ⟨b, off, none⟩ ∧ b < W.heap.size ∧ ∀ i (hi : i < l.length), TbIn W b (off + i * 6) l[i])
theorem TbsAt.kept {W W' : World} {v : Value} {l : List Pl.Tb} (h : TbsAt W v l) (hs : W.heap.size ≤ W'.heap.size) (hb : 0 < l.length → ∀ b, b < W.heap.size → v.ownBlock = some b → W'.heap[b]? = W.heap[b]?) : TbsAt W' v l := by
  obtain ⟨ao, cap, rfl, h1, h2, hn, h⟩ := h
  refine ⟨ao, cap, rfl, h1, h2, hn, fun h0 => ?_⟩
  obtain ⟨b, off, rfl, hlt, hc⟩ := h h0
  exact ⟨b, off, rfl, Nat.lt_of_lt_of_le hlt hs, fun i hi => (hc i hi).block (hb h0 b hlt rfl)⟩
theorem TbsAt.below {W W' : World} {v : Value} {l : List Pl.Tb} (h : TbsAt W v l) (hb : Below W.heap.size W W') : TbsAt W' v l := h.kept hb.size (fun _ b hl _ => hb.block b hl)
theorem TbsAt.keep {W W' : World} {v : Value} {l : List Pl.Tb} {fp : Nat → Prop} (h : TbsAt W v l) (hk : Keep fp W W') (hf : ∀ b, v.ownBlock = some b → b < W.heap.size → fp b) : TbsAt W' v l := h.kept hk.size (fun _ b hl e => hk.block b (hf b e hl) hl)
theorem TbsAt.nil (W : World) : TbsAt W (.slice none 0 0) [] := ⟨none, 0, rfl, Nat.le_refl _, by decide, Or.inl ⟨rfl, rfl⟩, fun h => absurd h (by simp)⟩
theorem TbsAt.take {W : World} {b off n cap : Nat} {l : List Pl.Tb} (h : TbsAt W (.slice (some ⟨b, off, none⟩) n cap) l) (k : Nat) (hk : k ≤ l.length) : TbsAt W (.slice (some ⟨b, off, none⟩) k cap) (l.take k) := by
  obtain ⟨ao, cap', e, h1, h2, hn, hc⟩ := h
  injection e with e1 e2 e3
  subst e1 e2 e3
  have hl : (l.take k).length = k := by rw [List.length_take]; omega
  refine ⟨_, cap, by rw [hl], by rw [hl]; omega, h2, hn, fun h0 => ?_⟩
  rw [hl] at h0
  obtain ⟨b', off', e, hlt, hc⟩ := hc (by omega)
  refine ⟨b', off', e, hlt, fun i hi => ?_⟩
  rw [hl] at hi
  rw [List.getElem_take]
  exact hc i (by omega)
theorem TbsAt.drop {W : World} {b off n cap : Nat} {l : List Pl.Tb} (h : TbsAt W (.slice (some ⟨b, off, none⟩) n cap) l) (k : Nat) (hk : k ≤ l.length) : TbsAt W (.slice (some ⟨b, off + k * 6, none⟩) (n - k) (cap - k)) (l.drop k) := by
  obtain ⟨ao, cap', e, h1, h2, hn, hc⟩ := h
  injection e with e1 e2 e3
  subst e1 e2 e3
  have hl : (l.drop k).length = l.length - k := by rw [List.length_drop]
  refine ⟨_, cap - k, by rw [hl], by rw [hl]; omega, by omega, .inr ⟨_, _, rfl⟩, fun h0 => ?_⟩
  rw [hl] at h0
  obtain ⟨b', off', e, hlt, hc⟩ := hc (by omega)
  injection e with e
  injection e with e1 e2
  subst e1 e2
  refine ⟨b, off + k * 6, rfl, hlt, fun i hi => ?_⟩
  rw [hl] at hi
  rw [List.getElem_drop]
  have := hc (k + i) (by omega)
  rw [show off + (k + i) * 6 = off + k * 6 + i * 6 by omega] at this
  exact this
theorem TbsAt.dropAll {W : World} {b off n k : Nat} {l : List Pl.Tb} (h : TbsAt W (.slice (some ⟨b, off, none⟩) n k) l) : TbsAt W (.slice (some ⟨b, off, none⟩) 0 0) (l.drop k) := by
  obtain ⟨ao, cap', e, h1, h2, hn, hc⟩ := h
  injection e with e1 e2 e3
  subst e1 e2 e3
  have hl : l.drop k = [] := List.drop_eq_nil_of_le h1
  rw [hl]
  exact ⟨_, 0, rfl, Nat.le_refl _, by decide, .inr ⟨_, _, rfl⟩, fun h => absurd h (by simp)⟩
/-- an own row of tables -/
def TOwn (W : World) (B : Nat) (u : Value) (l : List Pl.Tb) : Prop := W.ownsRow B 40 6 u l.length (tcells l)
theorem TOwn.at {W : World} {B : Nat} {u : Value} {l : List Pl.Tb} (h : TOwn W B u l) : TbsAt W u l := by
  rcases id h.2 with ⟨rfl, h0⟩ | ⟨g, cap, cur, rfl, hB, hg, hnc, hcm, hcs, ht⟩
  · exact ⟨none, 0, by rw [h0], by omega, by omega, Or.inl ⟨rfl, rfl⟩, fun h => by omega⟩
  · refine ⟨some ⟨g, 0, none⟩, cap, rfl, hnc, by unfold maxLen at hcm; exact hcm, Or.inr ⟨g, 0, rfl⟩, fun _ => ⟨g, 0, rfl, (Array.getElem?_eq_some_iff.1 hg).1, fun i hi => TbIn.of (fun j u hj => ?_)⟩⟩
    have hj6 : j < 6 := by have := (List.getElem?_eq_some_iff.1 hj).1; simpa [tcell] using this
    have := h.cells (g := g) rfl (i * 6 + j) u (by rw [tcells_get l i hi j hj6]; exact hj)
    rw [Addr.add_lit, Nat.zero_add] at this
    rw [Nat.zero_add]
    exact this
theorem info_table : (Try.prog.info? 40).map (fun i => (i.zero, i.size, i.bytes)) = some (some (.agg #[.int .u64 0, .int .i64 0, .int .i64 0, .int .i64 0, .string .empty, .string .empty]), 6, 64) := by kernel_rfl

/-- in W, v is a slice of these numbers -/
def NumsAt (W : World) (v : Value) (l : List Nat) : Prop :=
  ∃ (ao : Option Addr) (cap : Nat), v = .slice ao l.length cap ∧ l.length ≤ cap ∧ cap ≤ 9223372036854775807 ∧ (0 < l.length → ∃ b off, ao = some ⟨b, off, none⟩ ∧ b < W.heap.size ∧ ∀ i (hi : i < l.length), W.cell? ⟨b, off + i, none⟩ = some (.int .u64 (l[i] : Int)))
theorem NumsAt.kept {W W' : World} {v : Value} {l : List Nat} (h : NumsAt W v l) (hs : W.heap.size ≤ W'.heap.size) (hb : 0 < l.length → ∀ b, b < W.heap.size → v.ownBlock = some b → W'.heap[b]? = W.heap[b]?) : NumsAt W' v l := by
  obtain ⟨ao, cap, rfl, h1, h2, h⟩ := h
  refine ⟨ao, cap, rfl, h1, h2, fun h0 => ?_⟩
  obtain ⟨b, off, rfl, hlt, hc⟩ := h h0
  exact ⟨b, off, rfl, Nat.lt_of_lt_of_le hlt hs, fun i hi => (World.cell?_of_block (a := ⟨b, off + i, none⟩) (hb h0 b hlt rfl)).trans (hc i hi)⟩
theorem NumsAt.below {W W' : World} {v : Value} {l : List Nat} (h : NumsAt W v l) (hb : Below W.heap.size W W') : NumsAt W' v l := h.kept hb.size (fun _ b hl _ => hb.block b hl)
def ncells (l : List Nat) : List Value := l.map fun (n : Nat) => Value.int .u64 (n : Int)
theorem ncells_length (l : List Nat) : (ncells l).length = l.length := by simp [ncells]
theorem ncells_snoc (l : List Nat) (b : Nat) : ncells l ++ (#[Value.int .u64 (b : Int)] : Array Value).toList = ncells (l ++ [b]) := by simp [ncells]
def NOwn (W : World) (B : Nat) (u : Value) (l : List Nat) : Prop := W.ownsRow B 22 1 u l.length (ncells l)
theorem NOwn.at {W : World} {B : Nat} {u : Value} {l : List Nat} (h : NOwn W B u l) : NumsAt W u l := by
  rcases id h.2 with ⟨rfl, h0⟩ | ⟨g, cap, cur, rfl, hB, hg, hnc, hcm, hcs, ht⟩
  · exact ⟨none, 0, by rw [h0], by omega, by omega, fun h => by omega⟩
  · refine ⟨some ⟨g, 0, none⟩, cap, rfl, hnc, by unfold maxLen at hcm; exact hcm, fun _ => ⟨g, 0, rfl, (Array.getElem?_eq_some_iff.1 hg).1, fun i hi => ?_⟩⟩
    rw [Nat.zero_add]
    have := h.cells (g := g) rfl i (.int .u64 (l[i] : Int)) (by simp [ncells, hi])
    rw [Addr.add_lit, Nat.zero_add] at this
    exact this
theorem info_num : (Try.prog.info? 22).map (fun i => (i.zero, i.size, i.bytes)) = some (some (.int .u64 0), 1, 8) := by kernel_rfl

/-- in W, an edit lies from o on in the block b -/
structure EdIn (W : World) (b o : Nat) (x : Pl.Ed) : Prop where
  c0 : W.cell? ⟨b, o, none⟩ = some (.int .u64 (x.next : Int))
  c1 : W.cell? ⟨b, o + 1, none⟩ = some (.int .u64 (x.seq : Int))
  c2 : W.cell? ⟨b, o + 2, none⟩ = some (.int .u64 (x.log : Int))
  c3 : ∃ u, W.cell? ⟨b, o + 3, none⟩ = some u ∧ TbsIn W u x.add
  c4 : ∃ u, W.cell? ⟨b, o + 4, none⟩ = some u ∧ NumsAt W u x.drop
theorem EdIn.below {W W' : World} {b o : Nat} {x : Pl.Ed} (h : EdIn W b o x) (hlt : b < W.heap.size) (hb : Below W.heap.size W W') : EdIn W' b o x := by
  obtain ⟨h0, h1, h2, ⟨u, h3, h4⟩, v, h5, h6⟩ := h
  have e := hb.block b hlt
  exact ⟨(World.cell?_of_block (a := ⟨b, o, none⟩) e).trans h0, (World.cell?_of_block (a := ⟨b, o + 1, none⟩) e).trans h1, (World.cell?_of_block (a := ⟨b, o + 2, none⟩) e).trans h2, ⟨u, (World.cell?_of_block (a := ⟨b, o + 3, none⟩) e).trans h3, h4.below hb⟩, v, (World.cell?_of_block (a := ⟨b, o + 4, none⟩) e).trans h5, h6.below hb⟩
def EdsAt (W : World) (v : Value) (l : List Pl.Ed) : Prop :=
  ∃ (ao : Option Addr) (cap : Nat), v = .slice ao l.length cap ∧ l.length ≤ cap ∧ cap ≤ 9223372036854775807 ∧ (0 < l.length → ∃ b off, ao = some ⟨b, off, none⟩ ∧ b < W.heap.size ∧ ∀ i (hi : i < l.length), EdIn W b (off + i * 5) l[i])
theorem EdsAt.below {W W' : World} {v : Value} {l : List Pl.Ed} (h : EdsAt W v l) (hb : Below W.heap.size W W') : EdsAt W' v l := by
  obtain ⟨ao, cap, rfl, h1, h2, h⟩ := h
  refine ⟨ao, cap, rfl, h1, h2, fun h0 => ?_⟩
  obtain ⟨b, off, rfl, hlt, hc⟩ := h h0
  exact ⟨b, off, rfl, Nat.lt_of_lt_of_le hlt hb.size, fun i hi => (hc i hi).below hlt hb⟩

/-- live tables as a value: the addresses and the rooms of the four slices -/
def lvV (L : Pl.Lv) (a : Nat → Option Addr) (c : Nat → Nat) : Value :=
  .agg #[.int .u64 (L.next : Int), .int .u64 (L.seq : Int), .int .u64 (L.log : Int), .slice (a 0) (L.t 0).length (c 0), .slice (a 1) (L.t 1).length (c 1), .slice (a 2) (L.t 2).length (c 2), .slice (a 3) (L.t 3).length (c 3)]
def LvAt (W : World) (L : Pl.Lv) (a : Nat → Option Addr) (c : Nat → Nat) : Prop := ∀ k, k < 4 → TbsAt W (.slice (a k) (L.t k).length (c k)) (L.t k)
theorem LvAt.below {W W' : World} {L : Pl.Lv} {a : Nat → Option Addr} {c : Nat → Nat} (h : LvAt W L a c) (hb : Below W.heap.size W W') : LvAt W' L a c := fun k hk => (h k hk).below hb
theorem LvAt.zero (W : World) : LvAt W Pl.Lv.zero (fun _ => none) (fun _ => 0) := fun _ _ => TbsAt.nil W
/-- the cells of live tables, in a box of their own -/
def lvCells (L : Pl.Lv) (a : Nat → Option Addr) (c : Nat → Nat) : Array Value :=
  #[.int .u64 (L.next : Int), .int .u64 (L.seq : Int), .int .u64 (L.log : Int), .slice (a 0) (L.t 0).length (c 0), .slice (a 1) (L.t 1).length (c 1), .slice (a 2) (L.t 2).length (c 2), .slice (a 3) (L.t 3).length (c 3)]
theorem lvCells_k (L : Pl.Lv) (a : Nat → Option Addr) (c : Nat → Nat) (k : Nat) (hk : k < 4) : (lvCells L a c)[3 + k]? = some (.slice (a k) (L.t k).length (c k)) := by
  rcases k with _ | _ | _ | _ | k
  all_goals first | rfl | omega
end Go.Proofs.Ytekfaodjadinnaa
