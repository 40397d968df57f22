
/- Walk: the newest version of a key up to a number. Condition: none. -/
import Derived.Test.YtcfcijgnkbmlaaaTbl
namespace Go.Proofs.Ytcfcijgnkbmlaaa
open Go.RowKit Go.Shelf

/-- what Get answers -/
def Pl.getT (xs : List Ver) (key : ByteArray) (sq : Nat) : Ver × Bool := match xs[Pl.kOf xs ⟨key, sq, false, ⟨#[]⟩⟩]? with
  | some x => if x.key.toList == key.toList then (x, true) else (⟨⟨#[]⟩, 0, false, ⟨#[]⟩⟩, false)
  | none => (⟨⟨#[]⟩, 0, false, ⟨#[]⟩⟩, false)
theorem ver_loadVar {B : Nat} {k : ByteArray} {q : Int} {dl : Bool} {v : ByteArray} {W : World} (h : VrAt B k q dl v W) : (loadVar 24 ⟨B, 0, none⟩).run Try.prog W = .ok (.agg #[.string k, .int .u64 q, .bool dl, .string v]) W :=
  run_loadVar_mid (P := Try.prog) W B 0 24 [.string k, .int .u64 q, .bool dl, .string v] _ (fun j u hj => by
    rcases j with _ | _ | _ | _ | j
    · obtain rfl : Value.string k = u := by simpa using hj
      exact h.1
    · obtain rfl : Value.int .u64 q = u := by simpa using hj
      exact h.2.1
    · obtain rfl : Value.bool dl = u := by simpa using hj
      exact h.2.2.1
    · obtain rfl : Value.string v = u := by simpa using hj
      exact h.2.2.2.1
    · simp at hj) Try.underlying24 rfl (by kernel_rfl)
theorem results_ver {fn : Func} {p u : Tmp} (h : fn.results = #[.cell p 24, .tmp u]) {tmps : Array Value} {B : Nat} {k : ByteArray} {q : Int} {dl : Bool} {v : ByteArray} {w : World} (hp : tmps.getD p undef = .pointer (some ⟨B, 0, none⟩)) (hf : VrAt B k q dl v w) :
    (results fn tmps).run Try.prog w = .ok (.tuple #[.agg #[.string k, .int .u64 q, .bool dl, .string v], tmps.getD u undef]) w := by
  have hp' : tmps[p]?.getD undef = .pointer (some ⟨B, 0, none⟩) := by simpa using hp
  simp [results, h, hp', asAddr, ver_loadVar hf, Result.andThen]
theorem over4 {W : World} {b : Nat} {t : TypeId} {u0 u1 u2 u3 : Value} (h : W.heap[b]? = some (.cells #[u0, u1, u2, u3] t (0, 0))) (k : ByteArray) (q : Int) (d : Bool) (v : ByteArray) :
    VrAt b k q d v ((((W.setCell ⟨b, 0, none⟩ (.string k)).setCell ⟨b, 1, none⟩ (.int .u64 q)).setCell ⟨b, 2, none⟩ (.bool d)).setCell ⟨b, 3, none⟩ (.string v)) := by
  have h1 := heap_set4m (heap_set4m (heap_set4m (heap_set4m h 0 (.string k)) 1 (.int .u64 q)) 2 (.bool d)) 3 (.string v)
  have e : ((((#[u0, u1, u2, u3] : Array Value).setIfInBounds 0 (.string k)).setIfInBounds 1 (.int .u64 q)).setIfInBounds 2 (.bool d)).setIfInBounds 3 (.string v) = #[.string k, .int .u64 q, .bool d, .string v] := by simp
  rw [e] at h1
  exact ⟨cell_of h1, cell_of h1, cell_of h1, cell_of h1, (Array.getElem?_eq_some_iff.1 h1).1⟩

theorem index_arr (a0 a1 a2 a3 a4 a5 a6 a7 : Value) (w : World) : (Instr.index 77 (.agg #[a0, a1, a2, a3, a4, a5, a6, a7]) (.int .i64 0)).run Try.prog w = .ok a0 w := by kernel_rfl
set_option maxRecDepth 100000 in
set_option maxHeartbeats 1600000 in
theorem tbl_get (T : Nat) (xs : List Ver) (hs bs : List Nat) (key : ByteArray) (sq : Nat) (w : World) (hT : TblAt w T xs hs bs) :
    Calls Try.prog 33 #[.pointer (some ⟨T, 0, none⟩), .string key, .int .u64 (sq : Int)] w fun e w' =>
      e = .returned (.tuple #[.agg #[.string (Pl.getT xs key sq).1.key, .int .u64 ((Pl.getT xs key sq).1.seq : Int), .bool (Pl.getT xs key sq).1.del, .string (Pl.getT xs key sq).1.val], .bool (Pl.getT xs key sq).2]) ∧ Below w.heap.size w w' := by
  obtain ⟨W0, hW0⟩ : ∃ W0, w.alloc (.cells #[.string ⟨#[]⟩, .int .u64 0, .bool false, .string ⟨#[]⟩] 24) = W0 := ⟨_, rfl⟩
  have hb0 : Below w.heap.size w W0 := by rw [← hW0]; exact (Below.refl _ _).alloc (Nat.le_refl _) _
  have hG0 : W0.heap[w.heap.size]? = some (.cells #[.string ⟨#[]⟩, .int .u64 0, .bool false, .string ⟨#[]⟩] 24 (0, 0)) := by rw [← hW0]; exact World.alloc_heap_new _ _
  have hS := hT.sk
  have hl := hS.hl
  have bl := hS.bl
  have hA := Pl.ahead_less hT.good.ris ⟨key, sq, false, ⟨#[]⟩⟩
  have hh := hT.good.lo
  obtain ⟨r, hr⟩ : ∃ r, r = Pl.getT xs key sq := ⟨_, rfl⟩
  rw [← hr]
  unfold Pl.getT at hr
  generalize Pl.kOf xs ⟨key, sq, false, ⟨#[]⟩⟩ = k at *
  replace hr := Lib.hid hr
  have hkx := hA.le
  have hpd := pd_zero_all hh (k := k) (by omega)
  have hnx := nx_zero_all hh (p := k) (by omega)
  have hkh : 0 < Pl.hof hs k := by have := Pl.pd_hit hs 0 k (by omega); rwa [hpd] at this
  have P := Lib.hid (behind_any T xs hs bs _ _ ⟨key, sq, false, ⟨#[]⟩⟩ k W0 (hS.below hb0) hA)
  rw [hpd] at P
  have hS0 := hS.below hb0
  clear hS hT
  have hix := index_arr
  go_enter Try.func33, Try.ntmps33
  go_wp2_with fail
  clear hW0
  refine P.out.mono ?_
  rintro e w1 ⟨rfl, b1⟩
  have hbw := hb0.trans (b1.mono hb0.size)
  have hS1 := hS0.below b1
  have hG1 := (b1.block _ (Array.getElem?_eq_some_iff.1 hG0).1).trans hG0
  have l0 := hS1.link0 (p := k) (by omega)
  rw [Pl.lnk_step hkh hnx] at l0
  have g0 : w1.cell? ⟨w.heap.size, 0, none⟩ = some (.string ⟨#[]⟩) := (cell_of hG1).trans rfl
  have g1 : w1.cell? ⟨w.heap.size, 1, none⟩ = some (.int .u64 0) := (cell_of hG1).trans rfl
  have g2 : w1.cell? ⟨w.heap.size, 2, none⟩ = some (.bool false) := (cell_of hG1).trans rfl
  have g3 : w1.cell? ⟨w.heap.size, 3, none⟩ = some (.string ⟨#[]⟩) := (cell_of hG1).trans rfl
  have z0 := frozen_of hG1 (o := 0)
  have z1 := frozen_of hG1 (o := 1)
  have z2 := frozen_of hG1 (o := 2)
  have z3 := frozen_of hG1 (o := 3)
  clear P hS0 hb0
  have hge : w.heap.size ≤ w.heap.size := Nat.le_refl _
  replace hG1 := Lib.hid hG1
  by_cases hk : k < xs.length
  · rw [ptr_blk (T := T) (by omega)] at l0
    have hr2 := hr.out
    rw [List.getElem?_eq_getElem hk] at hr2
    replace hr2 := Lib.hid hr2
    obtain ⟨x0, x1, x2, x3, xB⟩ := hS1.ver hk
    cases hkey : xs[k].key.toList == key.toList
    · go_wp2
      refine bodyPost_ret (results_ver rfl rfl (over4 hG1.out ⟨#[]⟩ 0 false ⟨#[]⟩)) rfl ⟨?_, ?_⟩
      · rw [hr2.out]; simp [hkey]
      · exact (((hbw.setCell (p := ⟨w.heap.size, 0, none⟩) hge _).setCell (p := ⟨w.heap.size, 1, none⟩) hge _).setCell (p := ⟨w.heap.size, 2, none⟩) hge _).setCell (p := ⟨w.heap.size, 3, none⟩) hge _
    · go_wp2
      refine bodyPost_ret (results_ver rfl rfl (over4 hG1.out xs[k].key (xs[k].seq : Int) xs[k].del xs[k].val)) rfl ⟨?_, ?_⟩
      · rw [hr2.out]; simp [hkey]
      · exact (((hbw.setCell (p := ⟨w.heap.size, 0, none⟩) hge _).setCell (p := ⟨w.heap.size, 1, none⟩) hge _).setCell (p := ⟨w.heap.size, 2, none⟩) hge _).setCell (p := ⟨w.heap.size, 3, none⟩) hge _
  · rw [ptr_none (by omega)] at l0
    have hr2 := hr.out
    rw [List.getElem?_eq_none (by omega)] at hr2
    replace hr2 := Lib.hid hr2
    go_wp2
    refine bodyPost_ret (results_ver rfl rfl (over4 hG1.out ⟨#[]⟩ 0 false ⟨#[]⟩)) rfl ⟨?_, ?_⟩
    · rw [hr2.out]; rfl
    · exact (((hbw.setCell (p := ⟨w.heap.size, 0, none⟩) hge _).setCell (p := ⟨w.heap.size, 1, none⟩) hge _).setCell (p := ⟨w.heap.size, 2, none⟩) hge _).setCell (p := ⟨w.heap.size, 3, none⟩) hge _
end Go.Proofs.Ytcfcijgnkbmlaaa
