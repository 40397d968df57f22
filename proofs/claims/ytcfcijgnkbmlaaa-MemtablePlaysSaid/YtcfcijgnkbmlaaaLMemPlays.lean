/- Walk: the law MemtablePlays returns true. Condition: rows that the form's reach lets. -/
import Derived.Test.YtcfcijgnkbmlaaaWOne6b
import Derived.Test.YtcfcijgnkbmlaaaOpenMActs
namespace Go.Proofs.Ytcfcijgnkbmlaaa
open Go.RowKit Go.Shelf

/-- what lies about the law's rounds -/
structure Play6 (w : World) (T R : Nat) (k : Nat) (W : World) : Prop where
  ex : ∃ xs hs bs, TblAt W T xs hs bs ∧ RtAt W R xs hs ∧ xs.length ≤ k ∧ ∀ q, SkB T bs q → w.heap.size ≤ q
  old : Below w.heap.size w W

set_option maxRecDepth 100000 in
set_option maxHeartbeats 1600000 in
theorem memtablePlays_any (v : Value) (l : List MAct) (w : World) (hv : MActsAt w v l) (hf : ∀ x ∈ l, x.fine) (hl : l.length ≤ 2199023255551) :
    Calls Try.prog 11 #[v] w fun e w' => e = .returned (.bool true) ∧ Below w.heap.size w w' := by
  obtain ⟨ao, cap, rfl, c1, c2, hrow⟩ := hv
  replace hf := Lib.hid hf
  have P1 := Lib.hid (tbl_new w)
  go_enter Try.func11, Try.ntmps11
  go_wp2_with fail
  refine P1.out.mono ?_
  rintro e W1 ⟨rfl, hT1, hb1⟩
  clear P1
  have hTw : w.heap.size < W1.heap.size := hT1.sk.lt (.inl rfl)
  have hP : Play6 w w.heap.size W1.heap.size 0 (W1.alloc (.cells #[.slice none 0 0, .slice none 0 0] 64)) :=
    ⟨⟨[], [], [], hT1.below ((Below.refl _ _).alloc (Nat.le_refl _) _), ⟨_, _, World.alloc_heap_new _ _, World.ownsRow_nil _ _ _ _, World.ownsRow_nil _ _ _ _, fun _ => ⟨rfl, rfl⟩⟩, Nat.le_refl _, fun q hq => hq.elim (fun h => by omega) (fun h => by cases h)⟩, hb1.alloc hb1.size _⟩
  have hzR : w.heap.size < W1.heap.size := hTw
  clear hT1 hb1
  generalize hT : w.heap.size = T at hP hzR hTw ⊢
  go_wp2_with fail
  generalize W1.alloc (.cells #[.slice none 0 0, .slice none 0 0] 64) = W2 at hP ⊢
  generalize W1.heap.size = R at *
  replace hT := Lib.hid hT
  go_loopw [5] (fun i W' => ∃ k : Nat, k ≤ l.length ∧ i = .int .i64 k ∧ Play6 w T R k W') (fun i _ => l.length - (intOf i).toNat)
  case atStart => exact ⟨0, by omega, rfl, hP⟩
  case round =>
    obtain ⟨k, hk, rfl, ⟨xs, hs, bs, ht, hR, hxk, hmine⟩, hold⟩ := hrel
    by_cases h1 : k < l.length
    · obtain ⟨b, off, rfl, hbl, hc⟩ := hrow (by omega)
      obtain ⟨x0, x1, x2, x3, x4, x5⟩ := (hc k h1).kept (hold.block b hbl)
      have hn := (hf.out _ (List.getElem_mem h1)).2.1.2
      have P := Lib.hid (one_any T R xs hs bs l[k] wr ht hR (by omega) hn)
      generalize l[k] = a at *
      clear hc hn
      go_wp2_with fail
      refine P.out.mono ?_
      rintro e w1 ⟨rfl, ⟨xs', hs', bs', ht', hR', hxl, hm'⟩, hkp⟩
      clear P
      go_wp2_with fail
      go_roundw
      case rel =>
        refine ⟨k + 1, by omega, by go_num, ⟨xs', hs', bs', ht', hR', by omega, fun q hq => ?_⟩, ?_⟩
        · rcases hm' q hq with h | h
          · exact hmine q h
          · exact Nat.le_trans hold.size h
        · exact hkp.below hold (Nat.le_refl _) (fun q hq => ⟨fun h => by have := hmine q h; omega, by have := hT.out; omega⟩)
      case measure => simp [intOf]; omega
    · obtain rfl : k = l.length := by omega
      have P := Lib.hid (tbl_from T xs hs bs ⟨#[]⟩ 0 wr ht (by omega))
      rw [Pl.bOf_nil, List.drop_zero, heads_none (by omega)] at P
      obtain ⟨L, cL, hL⟩ := hR.rows
      have hRw : R < wr.heap.size := by
        obtain ⟨_, _, hg, _⟩ := hR
        exact (Array.getElem?_eq_some_iff.1 hg).1
      go_wp2_with fail
      refine P.out.mono ?_
      rintro e W3 ⟨u, rfl, hown, hb3⟩
      have cL3 := (hb3.cell (p := ⟨R, 0, none⟩) hRw).trans cL
      have P3 := Lib.hid (same_same u L xs W3 (own_vers hown) (hL.below hb3))
      clear P cL
      go_wp2_with fail
      refine P3.out.mono ?_
      rintro e W4 ⟨rfl, hq⟩
      have b4 := hq.below W3.heap.size
      go_wp2_with fail
      go_ret
      exact ⟨bool_end rfl, hold.trans ((hb3.trans (b4.mono hb3.size)).mono hold.size)⟩
end Go.Proofs.Ytcfcijgnkbmlaaa
