/- Walk: one act, done by a table and by the document's one, is answered alike. Condition: rows whose bytes fit. -/
import Derived.Test.YtcfcijgnkbmlaaaWRefAdd6
import Derived.Test.YtcfcijgnkbmlaaaWLevel6
import Derived.Test.YtcfcijgnkbmlaaaWRef6
import Derived.Test.YtcfcijgnkbmlaaaWGet6
import Derived.Test.YtcfcijgnkbmlaaaWSame
import Derived.Test.YtcfcijgnkbmlaaaMActs
import Derived.StillTailTactics
namespace Go.Proofs.Ytcfcijgnkbmlaaa
open Go.RowKit Go.Shelf

theorem sk_type {W : World} {T : Nat} {xs : List Ver} {hs bs : List Nat} (h : TblAt W T xs hs bs) {q : Nat} (hq : SkB T bs q) : ∃ cs t, W.heap[q]? = some (.cells cs t (0, 0)) ∧ (t = 81 ∨ t = 79) := by
  rcases hq with rfl | hq
  · exact ⟨_, _, h.sk.head, .inl rfl⟩
  · obtain ⟨i, hi, rfl⟩ := List.mem_iff_getElem.1 hq
    have h2 := h.sk.node i (by have := h.sk.bl; omega)
    rw [blk_get hi] at h2
    exact ⟨_, _, h2, .inr rfl⟩
theorem sk_not_row {W : World} {T : Nat} {xs : List Ver} {hs bs : List Nat} (h : TblAt W T xs hs bs) {base e size n : Nat} {v : Value} {l : List Value} (hr : W.ownsRow base e size v n l) (h1 : e ≠ 81) (h2 : e ≠ 79) : ∀ q, v.ownBlock = some q → ¬ SkB T bs q := by
  intro q hv hq
  obtain ⟨cs, t, hb, ht⟩ := sk_type h hq
  obtain ⟨_, ⟨rfl, _⟩ | ⟨g, cap, cur, rfl, _, hg, _⟩⟩ := hr
  · cases hv
  · have e1 : g = q := by simpa [Value.ownBlock] using hv
    subst e1
    rw [hb] at hg
    simp only [Option.some.injEq, Obj.cells.injEq] at hg
    obtain ⟨_, rfl, _⟩ := hg
    rcases ht with h | h
    · exact h1 h
    · exact h2 h
theorem RtAt.not_sk {W : World} {R T : Nat} {xs ys : List Ver} {hs gs bs : List Nat} (hR : RtAt W R ys gs) (h : TblAt W T xs hs bs) : ¬ SkB T bs R := by
  intro hq
  obtain ⟨cs, t, hb, ht⟩ := sk_type h hq
  obtain ⟨L, H, hg, _⟩ := hR
  rw [hb] at hg
  simp only [Option.some.injEq, Obj.cells.injEq] at hg
  obtain ⟨_, rfl, _⟩ := hg
  rcases ht with h | h <;> exact absurd h (by decide)
theorem RtAt.keepSk {W W' : World} {R T : Nat} {xs ys : List Ver} {hs gs bs : List Nat} (hR : RtAt W R ys gs) (h : TblAt W T xs hs bs) (hk : Keep (fun q => ¬ SkB T bs q) W W') : RtAt W' R ys gs := by
  have hn := hR.not_sk h
  obtain ⟨L, H, hg, h1, h2, h3⟩ := hR
  refine ⟨L, H, (hk.block R hn (Array.getElem?_eq_some_iff.1 hg).1).trans hg, hk.ownsRow h1 (sk_not_row h h1 (by decide) (by decide)), hk.ownsRow h2 (sk_not_row h h2 (by decide) (by decide)), h3⟩
theorem TblAt.keepR {W W' : World} {R T : Nat} {xs ys : List Ver} {hs gs bs : List Nat} (h : TblAt W T xs hs bs) (hR : RtAt W R ys gs) (hk : Keep (fun q => q ≠ R) W W') : TblAt W' T xs hs bs :=
  h.keep hk (fun _ hq e => hR.not_sk h (e ▸ hq))
theorem RtAt.rows {W : World} {R : Nat} {xs : List Ver} {hs : List Nat} (hR : RtAt W R xs hs) : ∃ L, W.cell? ⟨R, 0, none⟩ = some L ∧ VersAt W L xs := by
  obtain ⟨L, H, hg, h1, _⟩ := hR
  exact ⟨L, (cell_of hg).trans rfl, own_vers h1⟩
theorem VersAt.slice {W : World} {g : Option Addr} {n cap : Nat} {l : List Ver} (h : VersAt W (.slice g n cap) l) : l.length = n := by
  obtain ⟨ao, cap', e, _⟩ := h
  injection e with _ e _
  exact e.symm
theorem VersAt.front {W : World} {g : Option Addr} {n cap : Nat} {l : List Ver} (h : VersAt W (.slice g n cap) l) (k : Nat) (hk : k ≤ l.length) : VersAt W (.slice g k cap) (l.take k) := by
  obtain ⟨ao, cap', e, h1, h2, h3⟩ := h
  injection e with e1 e2 e3
  subst e1 e2 e3
  refine ⟨g, cap, by rw [List.length_take, Nat.min_eq_left hk], by rw [List.length_take]; omega, h2, fun h0 => ?_⟩
  rw [List.length_take] at h0
  obtain ⟨b, off, rfl, hr⟩ := h3 (by omega)
  refine ⟨b, off, rfl, hr.1, fun i hi => ?_⟩
  have hi' : i < l.length := by rw [List.length_take] at hi; omega
  have := hr.2 i hi'
  rwa [List.getElem_take]
theorem lvl_high {xs : List Ver} {hs : List Nat} (hg : Pl.TGood xs hs) {lv : Nat} (h : 8 ≤ lv) (n : Nat) (hn : n ≤ xs.length) : Pl.lvlN xs hs lv n = [] := by
  have := Pl.lvlN_skip (xs := xs) (hs := hs) (lv := lv) (a := 0) (b := n) (by omega) (fun i _ hi => by have := hg.hi i (by have := hg.hl; omega); omega)
  rw [this]; rfl

/-- what an act leaves -/
structure Left6 (w : World) (T R : Nat) (n : Nat) (bs : List Nat) (w' : World) : Prop where
  ex : ∃ xs' hs' bs', TblAt w' T xs' hs' bs' ∧ RtAt w' R xs' hs' ∧ xs'.length ≤ n + 1 ∧ ∀ q, SkB T bs' q → SkB T bs q ∨ w.heap.size ≤ q
  keep : Keep (fun q => ¬ SkB T bs q ∧ q ≠ R) w w'
theorem Left6.below {w w' : World} {T R : Nat} {xs : List Ver} {hs bs : List Nat} (hT : TblAt w T xs hs bs) (hR : RtAt w R xs hs) (hb : Below w.heap.size w w') : Left6 w T R xs.length bs w' :=
  ⟨⟨xs, hs, bs, hT.below hb, hR.below hb, by omega, fun _ h => .inl h⟩, Keep.of_below hb (fun _ _ h => h)⟩
theorem bool_end {a b : Bool} (h : a = b) : Ending.returned (.bool a) = Ending.returned (.bool b) := by rw [h]
def mcells (a : MAct) : Array Value := #[.int .i64 a.kind, .int .i64 a.n, .string a.v.key, .int .u64 (a.v.seq : Int), .bool a.v.del, .string a.v.val]

set_option maxRecDepth 100000 in
set_option maxHeartbeats 1600000 in
theorem one_add (T R : Nat) (xs : List Ver) (hs bs : List Nat) (n : Int) (v : Ver) (w : World) (hT : TblAt w T xs hs bs) (hR : RtAt w R xs hs) (hx : xs.length ≤ 2932031007316) :
    Calls Try.prog 38 #[.pointer (some ⟨T, 0, none⟩), .pointer (some ⟨R, 0, none⟩), .agg #[.int .i64 0, .int .i64 n, .string v.key, .int .u64 (v.seq : Int), .bool v.del, .string v.val]] w fun e w' =>
      e = .returned (.bool true) ∧ Left6 w T R xs.length bs w' := by
  obtain ⟨W0, hW0⟩ : ∃ W0, w.alloc (.cells #[.int .i64 0, .int .i64 n, .string v.key, .int .u64 (v.seq : Int), .bool v.del, .string v.val] 44) = W0 := ⟨_, rfl⟩
  have hb0 : Below w.heap.size w W0 := by rw [← hW0]; exact (Below.refl _ _).alloc (Nat.le_refl _) _
  have hA0 : W0.heap[w.heap.size]? = some (.cells #[.int .i64 0, .int .i64 n, .string v.key, .int .u64 (v.seq : Int), .bool v.del, .string v.val] 44 (0, 0)) := by rw [← hW0]; exact World.alloc_heap_new _ _
  have hT0 := hT.below hb0
  have hR0 := hR.below hb0
  have P1 := Lib.hid (tbl_add T xs hs bs v n W0 hT0 (by omega))
  have hAB : w.heap.size < W0.heap.size := (Array.getElem?_eq_some_iff.1 hA0).1
  have hlen := (hT.good.add v n).2.2
  have hAsk : ¬ SkB T bs w.heap.size := fun h => by have := hT.sk.lt h; omega
  have a0 : W0.cell? ⟨w.heap.size, 0, none⟩ = some (.int .i64 0) := (cell_of hA0).trans rfl
  have a1 : W0.cell? ⟨w.heap.size, 1, none⟩ = some (.int .i64 n) := (cell_of hA0).trans rfl
  have a2 : W0.cell? ⟨w.heap.size, 2, none⟩ = some (.string v.key) := (cell_of hA0).trans rfl
  have a3 : W0.cell? ⟨w.heap.size, 3, none⟩ = some (.int .u64 (v.seq : Int)) := (cell_of hA0).trans rfl
  have a4 : W0.cell? ⟨w.heap.size, 4, none⟩ = some (.bool v.del) := (cell_of hA0).trans rfl
  have a5 : W0.cell? ⟨w.heap.size, 5, none⟩ = some (.string v.val) := (cell_of hA0).trans rfl
  have hPR := Lib.hid (fun W (hr : RtAt W R xs hs) => refAdd_any R xs hs v n W hr hT.good hx)
  obtain ⟨⟨xs', hs', c⟩, hr⟩ : ∃ r, Pl.addT xs hs v n = r := ⟨_, rfl⟩
  rw [hr] at P1 hlen hPR
  simp only at P1 hlen hPR
  replace hA0 := Lib.hid hA0
  clear hr
  go_enter Try.func38, Try.ntmps38
  go_wp2_with fail
  clear hW0
  refine P1.out.mono ?_
  rintro e w1 ⟨rfl, ⟨bs', ht1, hm1⟩, hk1⟩
  have hR1 := hR0.keepSk hT0 hk1
  have hA1 := (hk1.block w.heap.size hAsk hAB).trans hA0.out
  have a0' : w1.cell? ⟨w.heap.size, 0, none⟩ = some (.int .i64 0) := (cell_of hA1).trans rfl
  have a1' : w1.cell? ⟨w.heap.size, 1, none⟩ = some (.int .i64 n) := (cell_of hA1).trans rfl
  have a2' : w1.cell? ⟨w.heap.size, 2, none⟩ = some (.string v.key) := (cell_of hA1).trans rfl
  have a3' : w1.cell? ⟨w.heap.size, 3, none⟩ = some (.int .u64 (v.seq : Int)) := (cell_of hA1).trans rfl
  have a4' : w1.cell? ⟨w.heap.size, 4, none⟩ = some (.bool v.del) := (cell_of hA1).trans rfl
  have a5' : w1.cell? ⟨w.heap.size, 5, none⟩ = some (.string v.val) := (cell_of hA1).trans rfl
  clear a0 a1 a2 a3 a4 a5 P1
  go_wp2_with fail
  refine (hPR.out w1 hR1).mono ?_
  rintro e w2 ⟨rfl, hR2, hk2⟩
  have ht2 := ht1.keepR hR1 hk2
  clear hPR a0' a1' a2' a3' a4' a5'
  go_wp2_with fail
  go_ret
  refine ⟨bool_end (by first | rfl | simp), ⟨⟨xs', hs', bs', ht2, hR2, hlen, fun q hq => ?_⟩, ?_⟩⟩
  · rcases hm1 q hq with h | h
    · exact .inl h
    · right; omega
  · have hkk : Keep (fun q => ¬ SkB T bs q ∧ q ≠ R) w W0 := Keep.of_below hb0 (fun _ _ h => h)
    exact (hkk.trans hk1 (fun q h _ => h.1)).trans hk2 (fun q h _ => h.2)
end Go.Proofs.Ytcfcijgnkbmlaaa
