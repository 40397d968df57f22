/- The law CompactPicks, walked: it returns true and makes memory alone. Condition: the edits add few enough tables. -/
import Derived.Test.YtekfaodjadinnaaWMade
import Derived.Test.YtekfaodjadinnaaWPk2
import Derived.Test.YtekfaodjadinnaaWPk3
namespace Go.Proofs.Ytekfaodjadinnaa
open Go.RowKit

/-- what stands about the law: its parameters' boxes, the two live tables -/
structure LwW (w : World) (c : Pl.Cfg) (L : Pl.Lv) (a1 a2 : Nat → Option Addr) (c1 c2 : Nat → Nat) (af : Nat → ByteArray) (b7 b8 : Nat) (W : World) : Prop where
  cb : CfgBox W w.heap.size c
  ab : AfBox W (w.heap.size + 1) af
  l7 : LvBox W b7 L a1 c1
  l8 : LvBox W b8 L a2 c2
  v7 : LvAt W L a1 c1
  v8 : LvAt W L a2 c2
  old : Below w.heap.size w W
  lo : w.heap.size + 2 ≤ b7
  hi : b7 < b8
theorem LwW.keep {w : World} {c : Pl.Cfg} {L : Pl.Lv} {a1 a2 : Nat → Option Addr} {c1 c2 : Nat → Nat} {af : Nat → ByteArray} {b7 b8 : Nat} {W W' : World} (h : LwW w c L a1 a2 c1 c2 af b7 b8 W) (hk : Keep (fun q => q < W.heap.size) W W') : LwW w c L a1 a2 c1 c2 af b7 b8 W' :=
  ⟨(hk.block _ h.cb.lt h.cb.lt).trans h.cb, (hk.block _ h.ab.lt h.ab.lt).trans h.ab, h.l7.keep hk h.l7.lt, h.l8.keep hk h.l8.lt, fun k hk4 => (h.v7 k hk4).keep hk (fun _ _ hl => hl), fun k hk4 => (h.v8 k hk4).keep hk (fun _ _ hl => hl), hk.below h.old (Nat.le_refl _) (fun q hq => Nat.lt_of_lt_of_le hq h.old.size), h.lo, h.hi⟩
theorem LwW.below {w : World} {c : Pl.Cfg} {L : Pl.Lv} {a1 a2 : Nat → Option Addr} {c1 c2 : Nat → Nat} {af : Nat → ByteArray} {b7 b8 : Nat} {W W' : World} (h : LwW w c L a1 a2 c1 c2 af b7 b8 W) (hb : Below W.heap.size W W') : LwW w c L a1 a2 c1 c2 af b7 b8 W' :=
  h.keep (Keep.of_below hb (fun _ h _ => h))
/-- a row of tables that may be written to -/
def RowT (W : World) (a : Option Addr) (n : Nat) : Prop := n = 0 ∨ ∃ g cs t, a = some ⟨g, 0, none⟩ ∧ W.heap[g]? = some (.cells cs t (0, 0)) ∧ n * 6 ≤ cs.size
theorem RowT.of {W : World} {B n : Nat} {a : Option Addr} {cap : Nat} {l : List Pl.Tb} (h : TOwn W B (.slice a n cap) l) (hn : n = l.length) : RowT W a n := by
  subst hn
  rcases h.2 with ⟨e, h0⟩ | ⟨g, cp, cur, e, hB, hg, hnc, hcm, hcs, ht⟩
  · exact .inl h0
  · injection e with e1 e2 e3
    exact .inr ⟨g, cur, _, e1, hg, by rw [hcs]; exact Nat.mul_le_mul_right 6 hnc⟩
theorem RowT.cell {W : World} {a : Option Addr} {n : Nat} (h : RowT W a n) {i : Nat} (hi : i < n) : ∃ g v, a = some ⟨g, 0, none⟩ ∧ W.cell? ⟨g, i * 6, none⟩ = some v ∧ W.frozen? ⟨g, i * 6, none⟩ = false ∧ g < W.heap.size := by
  rcases h with h | ⟨g, cs, t, ea, hg, hs⟩
  · omega
  · have hlt : i * 6 < cs.size := by omega
    exact ⟨g, cs[i * 6], ea, by simp [World.cell?, hg, hlt], by simp [World.frozen?, hg], (Array.getElem?_eq_some_iff.1 hg).1⟩
theorem RowT.set {W : World} {a : Option Addr} {n : Nat} (h : RowT W a n) (b k : Nat) (v : Value) : RowT (W.setCell ⟨b, k, none⟩ v) a n := by
  rcases h with h | ⟨g, cs, t, ea, hg, hs⟩
  · exact .inl h
  · by_cases e : b = g
    · subst e
      exact .inr ⟨b, cs.setIfInBounds k v, t, ea, by simp [World.setCell, Array.getElem?_modify, hg], by simpa using hs⟩
    · exact .inr ⟨g, cs, t, ea, by simp [World.setCell, Array.getElem?_modify, e, hg], hs⟩
theorem RowT.below {W W' : World} {a : Option Addr} {n : Nat} (h : RowT W a n) (hb : Below W.heap.size W W') : RowT W' a n := by
  rcases h with h | ⟨g, cs, t, ea, hg, hs⟩
  · exact .inl h
  · exact .inr ⟨g, cs, t, ea, (hb.block g (Array.getElem?_eq_some_iff.1 hg).1).trans hg, hs⟩

set_option maxRecDepth 100000 in
set_option maxHeartbeats 40000000 in
theorem compactPicks_any (c : Pl.Cfg) (l : List Pl.Ed) (u : Value) (af : Nat → ByteArray) (w : World) (hu : EdsAt w u l) (hs : Pl.adds l ≤ 536870912) :
    Calls Try.prog 3 #[cfgV c, u, .agg #[.string (af 0), .string (af 1), .string (af 2), .string (af 3)]] w fun e w' => e = .returned (.bool true) ∧ Below w.heap.size w w' := by
  have hlen : ∀ k, k < 4 → ((Pl.made l).t k).length ≤ 536870912 := fun k hk => by
    have := Pl.made_length l l.length (Nat.le_refl _) k hk
    rw [List.take_length] at this
    omega
  have PM := Lib.hid (fun (W : World) (h : Below w.heap.size w W) => made_any l u W (hu.below h) hs)
  generalize Pl.made l = L at *
  clear hs hu
  obtain ⟨W0, hW0⟩ : ∃ W0, (w.alloc (.cells #[.int .i64 c.c0, .int .i64 c.c1, .int .i64 c.c2, .int .i64 c.c3, .int .i64 c.c4, .int .i64 c.c5, .int .i64 c.c6, .int .u64 c.c7] 24)).alloc (.cells #[.string (af 0), .string (af 1), .string (af 2), .string (af 3)] 26) = W0 := ⟨_, rfl⟩
  have hb0 : Below w.heap.size w W0 := by rw [← hW0]; exact ((Below.refl _ _).alloc (Nat.le_refl _) _).alloc (by simp) _
  have hC0 : CfgBox W0 w.heap.size c := by
    rw [← hW0]
    exact (show CfgBox (w.alloc (.cells #[.int .i64 c.c0, .int .i64 c.c1, .int .i64 c.c2, .int .i64 c.c3, .int .i64 c.c4, .int .i64 c.c5, .int .i64 c.c6, .int .u64 c.c7] 24)) w.heap.size c from World.alloc_heap_new _ _).below ((Below.refl _ _).alloc (Nat.le_refl _) _)
  have hA0 : AfBox W0 (w.heap.size + 1) af := by
    rw [← hW0]
    have h2 := World.alloc_heap_new (w.alloc (.cells #[.int .i64 c.c0, .int .i64 c.c1, .int .i64 c.c2, .int .i64 c.c3, .int .i64 c.c4, .int .i64 c.c5, .int .i64 c.c6, .int .u64 c.c7] 24)) (.cells #[.string (af 0), .string (af 1), .string (af 2), .string (af 3)] 26)
    rw [World.size_alloc] at h2
    exact h2
  unfold cfgV
  go_enter Try.func3, Try.ntmps3
  go_wp2_with fail
  clear hW0
  refine (PM.out W0 hb0).mono ?_
  rintro e W1 ⟨a1, c1, rfl, hv1, b1⟩
  have hbw1 := hb0.trans (b1.mono hb0.size)
  have hA1 : AfBox W1 (w.heap.size + 1) af := (b1.block _ hA0.lt).trans hA0
  have hC1 := hC0.below b1
  have hl1 := hA1.lt
  clear b1 hb0 hC0 hA0
  unfold lvV
  go_upto_region 2 with (fail)
  have hB2 : Below W1.heap.size W1 (W1.alloc (.cells (lvCells L a1 c1) 30)) := (Below.refl _ _).alloc (Nat.le_refl _) _
  have hL2 : LvBox (W1.alloc (.cells (lvCells L a1 c1) 30)) W1.heap.size L a1 c1 := LvBox.new _ _ _ _
  unfold lvCells at hB2 hL2
  generalize W1.alloc (.cells #[.int .u64 (L.next : Int), .int .u64 (L.seq : Int), .int .u64 (L.log : Int), .slice (a1 0) (L.t 0).length (c1 0), .slice (a1 1) (L.t 1).length (c1 1), .slice (a1 2) (L.t 2).length (c1 2), .slice (a1 3) (L.t 3).length (c1 3)] 30) = W2 at hB2 hL2 ⊢
  go_wp2_with fail
  refine (PM.out W2 (hbw1.trans (hB2.mono hbw1.size))).mono ?_
  rintro e W3 ⟨a2, c2, rfl, hv2, b3⟩
  have hB23 := hB2.trans (b3.mono hB2.size)
  have hL3 := hL2.below b3
  have hA3 : AfBox W3 (w.heap.size + 1) af := (hB23.block _ hA1.lt).trans hA1
  have hC3 := hC1.below hB23
  have hV3 := hv1.below hB23
  have hO3 := hbw1.trans (hB23.mono hbw1.size)
  have hl3 := hL3.lt
  clear PM hB2 hL2 b3 hB23 hA1 hC1 hv1 hbw1
  unfold lvV
  go_upto_region 3 with (fail)
  have hB4 : Below W3.heap.size W3 (W3.alloc (.cells (lvCells L a2 c2) 30)) := (Below.refl _ _).alloc (Nat.le_refl _) _
  have hL4 : LvBox (W3.alloc (.cells (lvCells L a2 c2) 30)) W3.heap.size L a2 c2 := LvBox.new _ _ _ _
  have hW4 : LwW w c L a1 a2 c1 c2 af W1.heap.size W3.heap.size (W3.alloc (.cells (lvCells L a2 c2) 30)) :=
    ⟨hC3.below hB4, (hB4.block _ hA3.lt).trans hA3, hL3.below hB4, hL4, hV3.below hB4, hv2.below hB4, hO3.trans (hB4.mono hO3.size), by omega, hl3⟩
  unfold lvCells at hW4
  clear hC3 hA3 hL3 hL4 hV3 hv2 hO3 hB4
  generalize W3.alloc (.cells #[.int .u64 (L.next : Int), .int .u64 (L.seq : Int), .int .u64 (L.log : Int), .slice (a2 0) (L.t 0).length (c2 0), .slice (a2 1) (L.t 1).length (c2 1), .slice (a2 2) (L.t 2).length (c2 2), .slice (a2 3) (L.t 3).length (c2 3)] 30) = W4 at hW4 ⊢
  generalize W1.heap.size = b7 at *
  generalize W3.heap.size = b8 at *
  go_wp2_with fail
  go_loopw [9] (fun i W' => ∃ n : Nat, n ≤ 6 ∧ i = .int .i64 ((n : Int) - 1) ∧ LwW w c L a1 a2 c1 c2 af b7 b8 W') (fun i _ => 6 - (intOf i + 1).toNat)
  case atStart => exact ⟨0, by omega, by go_num, hW4⟩
  clear hW4
  case round =>
    obtain ⟨n, hn, rfl, hW⟩ := hrel
    by_cases hn6 : n < 6
    · have PS1 := Lib.hid (score_any c L a1 c1 ((n : Int) - 1) wr hW.v7 (by omega) (fun j hj => by have := hlen j hj; omega))
      have PS2 := Lib.hid (fun (W : World) (h : LwW w c L a1 a2 c1 c2 af b7 b8 W) => refScore_any c L a2 c2 ((n : Int) - 1) W h.v8 (by omega) (fun j hj => by have := hlen j hj; omega))
      unfold cfgV lvV at PS1 PS2
      obtain ⟨k0, k1, k2, k3, k4, k5, k6, k7⟩ := hW.cb.cells
      obtain ⟨p0, p1, p2, p3, p4, p5, p6⟩ := hW.l7.cells
      generalize (Pl.score c L ((n : Int) - 1)).1 = sn at *
      generalize (Pl.score c L ((n : Int) - 1)).2 = sm at *
      go_wp2_with fail
      refine PS1.out.mono ?_
      rintro e w1 ⟨rfl, b1⟩
      have hWa := hW.below b1
      have PS3 := Lib.hid (PS2.out w1 hWa)
      clear hW b1 PS1 PS2 k0 k1 k2 k3 k4 k5 k6 k7 p0 p1 p2 p3 p4 p5 p6
      obtain ⟨k0, k1, k2, k3, k4, k5, k6, k7⟩ := hWa.cb.cells
      obtain ⟨p0, p1, p2, p3, p4, p5, p6⟩ := hWa.l8.cells
      go_wp2_with fail
      refine PS3.out.mono ?_
      rintro e w2 ⟨rfl, b2⟩
      have hWb := hWa.below b2
      clear hWa b2 PS3 k0 k1 k2 k3 k4 k5 k6 k7 p0 p1 p2 p3 p4 p5 p6
      go_wp2
      go_roundw
      case rel => exact ⟨n + 1, by omega, by go_num, hWb⟩
      case measure => simp [intOf]; omega
    obtain rfl : n = 6 := by omega
    clear hn hn6
    have PP1 := Lib.hid (pick_any c L a1 c1 af wr hW.v7 hlen)
    have PP2 := Lib.hid (fun (W : World) (h : LwW w c L a1 a2 c1 c2 af b7 b8 W) => refPick_any c L a2 c2 af W h.v8 hlen)
    unfold cfgV lvV at PP1 PP2
    obtain ⟨k0, k1, k2, k3, k4, k5, k6, k7⟩ := hW.cb.cells
    obtain ⟨p0, p1, p2, p3, p4, p5, p6⟩ := hW.l7.cells
    have f0 := hW.ab.k 0 (by decide)
    have f1 := hW.ab.k 1 (by decide)
    have f2 := hW.ab.k 2 (by decide)
    have f3 := hW.ab.k 3 (by decide)
    generalize Pl.pick c L af = R at *
    obtain ⟨J, hJ⟩ : ∃ J, J = R.getD Pl.jb0 := ⟨_, rfl⟩
    obtain ⟨db, hdb⟩ : ∃ db, db = R.isSome := ⟨_, rfl⟩
    unfold PkEnd at PP1 PP2
    rw [← hJ, ← hdb] at PP1 PP2
    unfold jobV at PP1 PP2
    clear hJ hdb
    obtain ⟨jk, F, T, bt⟩ := J
    simp only at PP1 PP2
    go_wp2_with fail
    refine PP1.out.mono ?_
    rintro e w1 ⟨e1, d1, e2, d2, rfl, hF1, hT1, bb1⟩
    have hz1 := bb1.size
    have hWa := hW.below bb1
    have hW0 := Lib.hid hW
    have hgF : ∀ g, e1 = some ⟨g, 0, none⟩ → wr.heap.size ≤ g ∧ g < w1.heap.size := fun g e => World.ownsRow.lt hF1 g (by rw [e]; rfl)
    have hgT : ∀ g, e2 = some ⟨g, 0, none⟩ → wr.heap.size ≤ g ∧ g < w1.heap.size := fun g e => World.ownsRow.lt hT1 g (by rw [e]; rfl)
    have hFl : F.length ≤ 9223372036854775807 := by obtain ⟨_, cp, ee, h1, h2, -⟩ := hF1.at; omega
    have hTl : T.length ≤ 9223372036854775807 := by obtain ⟨_, cp, ee, h1, h2, -⟩ := hT1.at; omega
    replace hgF := Lib.hid hgF
    replace hgT := Lib.hid hgT
    clear PP1 k0 k1 k2 k3 k4 k5 k6 k7 p0 p1 p2 p3 p4 p5 p6 f0 f1 f2 f3
    go_upto_region 11 with (fail)
    have hB2 : Below w1.heap.size w1 (w1.alloc (.cells #[.int .i64 (jk : Int), .slice e1 F.length d1, .slice e2 T.length d2, .bool bt] 35)) := (Below.refl _ _).alloc (Nat.le_refl _) _
    have hJ2 : JbBox (w1.alloc (.cells #[.int .i64 (jk : Int), .slice e1 F.length d1, .slice e2 T.length d2, .bool bt] 35)) w1.heap.size (jk : Int) e1 F.length d1 e2 T.length d2 bt := World.alloc_heap_new _ _
    generalize w1.alloc (.cells #[.int .i64 (jk : Int), .slice e1 F.length d1, .slice e2 T.length d2, .bool bt] 35) = w2 at hB2 hJ2 ⊢
    have hWb := hWa.below hB2
    have hFa := (hF1.at).below hB2
    have hTa := (hT1.at).below hB2
    have hFr := (RowT.of hF1 rfl).below hB2
    have hTr := (RowT.of hT1 rfl).below hB2
    have PP3 := Lib.hid (PP2.out w2 hWb)
    obtain ⟨k0, k1, k2, k3, k4, k5, k6, k7⟩ := hWb.cb.cells
    obtain ⟨p0, p1, p2, p3, p4, p5, p6⟩ := hWb.l8.cells
    have f0 := hWb.ab.k 0 (by decide)
    have f1 := hWb.ab.k 1 (by decide)
    have f2 := hWb.ab.k 2 (by decide)
    have f3 := hWb.ab.k 3 (by decide)
    clear PP2 hWa
    go_wp2_with fail
    refine PP3.out.mono ?_
    rintro e w3 ⟨e3, d3, e4, d4, rfl, hF3, hT3, bb3⟩
    have hz3 := bb3.size
    have hWc := hWb.below bb3
    have hJ3 := hJ2.below bb3
    have hFb := hFa.below bb3
    have hTb := hTa.below bb3
    have hFs := hFr.below bb3
    have hTs := hTr.below bb3
    clear PP3 k0 k1 k2 k3 k4 k5 k6 k7 p0 p1 p2 p3 p4 p5 p6 f0 f1 f2 f3 hWb hFa hTa hFr hTr
    go_upto_region 12 with (fail)
    have hB4 : Below w3.heap.size w3 (w3.alloc (.cells #[.int .i64 (jk : Int), .slice e3 F.length d3, .slice e4 T.length d4, .bool bt] 35)) := (Below.refl _ _).alloc (Nat.le_refl _) _
    have hK4 : JbBox (w3.alloc (.cells #[.int .i64 (jk : Int), .slice e3 F.length d3, .slice e4 T.length d4, .bool bt] 35)) w3.heap.size (jk : Int) e3 F.length d3 e4 T.length d4 bt := World.alloc_heap_new _ _
    generalize w3.alloc (.cells #[.int .i64 (jk : Int), .slice e3 F.length d3, .slice e4 T.length d4, .bool bt] 35) = w4 at hB4 hK4 ⊢
    have hWd := hWc.below hB4
    have hJ4 := hJ3.below hB4
    have hFd := hFs.below hB4
    have hTd := hTs.below hB4
    have PJ := Lib.hid (sameJob_same (jk : Int) F T bt e1 e2 e3 e4 d1 d2 d3 d4 w4 (hFb.below hB4) (hTb.below hB4) (hF3.at.below hB4) (hT3.at.below hB4))
    unfold jobV at PJ
    obtain ⟨x0, x1, x2, x3⟩ := hJ4.cells
    obtain ⟨y0, y1, y2, y3⟩ := hK4.cells
    have q2 := bb1.trans (hB2.mono bb1.size)
    have q3 := q2.trans (bb3.mono q2.size)
    have hB14 := Lib.hid (q3.trans (hB4.mono q3.size))
    have hz24 : w1.heap.size < w4.heap.size := hJ4.lt
    have hzr4 : wr.heap.size ≤ w4.heap.size := hB14.out.size
    clear hWc hJ3 hFb hTb hFs hTs hF3 hT3 hF1 hT1 hW bb1 bb3 hB2 hB4 hWd hJ2 q2 q3
    go_wp2_with fail
    refine PJ.out.mono ?_
    rintro e w5 ⟨rfl, b5⟩
    have hB15 := Lib.hid (hB14.out.trans (b5.mono hzr4))
    have hJ5 := hJ4.below b5
    have hF5 := hFd.below b5
    have hT5 := hTd.below b5
    have hz5 : w1.heap.size < w5.heap.size := hJ5.lt
    clear PJ hB14 hJ4 hFd hTd b5 hK4 x0 x1 x2 x3 y0 y1 y2 y3 hz24 hzr4
    generalize hz1e : w1.heap.size = z1 at *
    clear hz1e
    clear w1
    obtain ⟨wq, rfl⟩ : ∃ wq : World, wq = wr := ⟨_, rfl⟩
    go_wp2_with fail
    go_loopw [19] (fun i W' => ∃ n : Nat, n ≤ F.length ∧ i = .int .i64 (n : Int) ∧ Keep (fun q => q < wq.heap.size ∨ z1 ≤ q) w5 W' ∧ RowT W' e1 F.length ∧ RowT W' e2 T.length) (fun i _ => F.length - (intOf i).toNat)
    case atStart => exact ⟨0, by omega, rfl, Keep.refl _ _, hF5, hT5⟩
    clear hF5 hT5
    case round =>
      obtain ⟨n, hn, rfl, hk, hrF, hrT⟩ := hrel
      have hJ := hJ5.keep hk (Or.inr (Nat.le_refl _))
      obtain ⟨x0, x1, x2, x3⟩ := hJ.cells
      have hjl := hJ.lt
      by_cases hnF : n < F.length
      · obtain ⟨g, v, rfl, hc, hf, hg⟩ := hrF.cell hnF
        have hgr := hgF.out g rfl
        have hnI : (0 : Int) ≤ (n : Int) := by omega
        have hk' := Lib.hid (hk.setCell g (n * 6) (.int .u64 0) (fun h _ => by rcases h with h | h <;> omega))
        have hrF' := Lib.hid (hrF.set g (n * 6) (.int .u64 0))
        have hrT' := Lib.hid (hrT.set g (n * 6) (.int .u64 0))
        clear hk hrF hrT hJ
        go_wp2
        go_roundw
        case rel => exact ⟨n + 1, by omega, by go_num, hk'.out, hrF'.out, hrT'.out⟩
        case measure => simp [intOf]; omega
      obtain rfl : n = F.length := by omega
      clear hnF hn hJ5
      obtain ⟨w6, rfl⟩ : ∃ w6 : World, w6 = wr := ⟨_, rfl⟩
      go_wp2_with fail
      go_loopw [20] (fun i W' => ∃ n : Nat, n ≤ T.length ∧ i = .int .i64 (n : Int) ∧ Keep (fun q => q < wq.heap.size ∨ z1 ≤ q) w5 W' ∧ JbBox W' z1 (jk : Int) e1 F.length d1 e2 T.length d2 bt ∧ RowT W' e2 T.length) (fun i _ => T.length - (intOf i).toNat)
      case atStart => exact ⟨0, by omega, rfl, hk, hJ, hrT⟩
      clear hk hJ hrF hrT x0 x1 x2 x3 hjl
      case round =>
        obtain ⟨n, hn, rfl, hk, hJ, hrT⟩ := hrel
        obtain ⟨x0, x1, x2, x3⟩ := hJ.cells
        have hjl := hJ.lt
        by_cases hnF : n < T.length
        · obtain ⟨g, v, rfl, hc, hf, hg⟩ := hrT.cell hnF
          have hgr := hgT.out g rfl
          have hnI : (0 : Int) ≤ (n : Int) := by omega
          have hk' := Lib.hid (hk.setCell g (n * 6) (.int .u64 0) (fun h _ => by rcases h with h | h <;> omega))
          have hJ' := Lib.hid (hJ.keep ((Keep.refl (fun q => q ≠ g) wr).setCell g (n * 6) (.int .u64 0) (fun h _ => h rfl)) (show z1 ≠ g by omega))
          have hrT' := Lib.hid (hrT.set g (n * 6) (.int .u64 0))
          clear hk hrT hJ
          go_wp2
          go_roundw
          case rel => exact ⟨n + 1, by omega, by go_num, hk'.out, hJ'.out, hrT'.out⟩
          case measure => simp [intOf]; omega
        obtain rfl : n = T.length := by omega
        have hkq : Keep (fun q => q < wq.heap.size) wq wr := (Keep.of_below hB15.out (fun _ h _ => h)).trans hk (fun q h _ => Or.inl h)
        have hWz := hW0.out.keep hkq
        obtain ⟨p0, p1, p2, p3, p4, p5, p6⟩ := hWz.l7.cells
        obtain ⟨r0, r1, r2, r3, r4, r5, r6⟩ := hWz.l8.cells
        have PL := Lib.hid (sameLive_same L a1 a2 c1 c2 wr hWz.v7 hWz.v8)
        unfold lvV at PL
        have hOz := Lib.hid hWz.old
        clear hk hJ hrT hkq hWz
        go_wp2_with fail
        refine PL.out.mono ?_
        rintro e w7 ⟨rfl, b7⟩
        have hOe := Lib.hid (hOz.out.trans (b7.mono hOz.out.size))
        go_wp2
        go_ret
        exact ⟨ret_bool (by simp), hOe.out⟩
end Go.Proofs.Ytekfaodjadinnaa
