
/- Walks: the blocks that the next commit may take, as a sequence. Condition: blocks that a root may have. -/
import Derived.Test.YtogblcdefbnbeaaGreatQWFs3
import Derived.Test.YtogblcdefbnbeaaGreatQGn
import Derived.Test.YtogblcdefbnbeaaGreatQGu
import Derived.Outline
import Derived.Test.YtogblcdefbnbeaaGreatQGv
set_option maxRecDepth 100000
namespace Go.Proofs.YtogblcdefbnbeaaGreat
section
open Go.RowKit Go.Shelf
namespace Pl
def okF (r : RootP) (b : Nat) : Bool := decide (32 ≤ b) && !decide ((b : Int) ∈ flatB r.files)
def freeU (r : RootP) (n : Nat) : List Int := ((List.range n).filter (okF r)).map fun (b : Nat) => (b : Int)
theorem freeU_succ (r : RootP) (n : Nat) : freeU r (n + 1) = freeU r n ++ (if okF r n = true then [(n : Int)] else []) := by
  unfold freeU
  rw [List.range_succ, List.filter_append, List.map_append]
  by_cases h : okF r n = true
  · rw [if_pos h]; simp [List.filter_cons, h]
  · rw [if_neg h]; simp [List.filter_cons, h]
theorem freeU_low (r : RootP) : ∀ n, n ≤ 32 → freeU r n = []
  | 0, _ => rfl
  | n + 1, h => by
    rw [freeU_succ, freeU_low r n (by omega), if_neg]
    · rfl
    · unfold okF
      rw [decide_eq_false (by omega : ¬ 32 ≤ n)]
      simp
theorem freeU_pre (r : RootP) {m n : Nat} (h : m ≤ n) : freeU r m <+: freeU r n := by
  induction n with
  | zero =>
    have e : m = 0 := by omega
    rw [e]
    exact ⟨[], by simp⟩
  | succ n ih =>
    rcases Nat.lt_or_eq_of_le h with h1 | rfl
    · obtain ⟨t, ht⟩ := ih (by omega)
      rw [freeU_succ, ← ht]
      exact ⟨_, (List.append_assoc _ _ _).symm⟩
    · exact ⟨[], by simp⟩
end Pl
theorem SetAt.put {W : World} {m : Nat} {l : List Int} (h : SetAt W m l) (b : Int) (h1 : -9223372036854775808 ≤ b) (h2 : b ≤ 9223372036854775807) (hl : l.length < maxLen) :
    ∃ w', (Instr.mapUpdate 147 (.map (some m)) (.int .i64 b) (.bool true)).run Tryz.prog W = .ok () w' ∧ SetAt w' m (l ++ [b]) ∧ W.mapTurned w' m := by
  have hkey : keyOf Tryz.prog 3 (.int .i64 b) = some (.int .i64 b) := Maps.keyOf_int_mk Tryz.underlying3 (by simp [Lit.wf, IntKind.min, IntKind.max, IntKind.signed, IntKind.bits]; omega)
  obtain ⟨w', e1, e2, e3⟩ := World.ownsMap.store h (Maps.int_keyed Tryz.underlying3) Tryz.underlying147 hl hkey (plainElem_bool (H := Unit) Tryz.underlying4 true)
  exact ⟨w', e1, SetAt.snoc e2, e3⟩
theorem below_turned {B m : Nat} {w W W' : World} (h : Below B w W) (hB : B ≤ W.heap.size) (hm : B ≤ m) (ht : W.mapTurned W' m) : Below B w W' := h.grown ht.grown hB (fun k e => by injection e with e; omega)
def encI (y : Int) : Array Value := #[.int .i64 y]
variable {B Bd f d m : Nat} {vf : Value} {x : Pl.Fs} {s : Pl.Dv} {rp fp fpd : Nat → Prop} {W W' : World}
theorem free_in (n : Nat) (w : World) : CallsIn Fence.wide n Tryz.prog 68 #[.pointer (some ⟨f, 0, none⟩)] w fun e w' => e = .returned (.func (.func 97) #[] #[.pointer (some ⟨w.heap.size, 0, none⟩)]) ∧ w' = w.alloc (.cells #[.pointer (some ⟨f, 0, none⟩)] 30) := by
  refine callsIn_of_wp Tryz.func68 rfl trivial ?_ rfl
  simp only [Tryz.ntmps68, List.size_toArray, List.length_cons, List.length_nil, Nat.reduceAdd, Nat.reduceSub, Array.replicate_succ, Array.replicate_zero, List.push_toArray, List.append_toArray, List.nil_append, List.cons_append]
  gi_wp2
  go_ret
  exact ⟨rfl, rfl⟩
set_option maxHeartbeats 8000000 in
theorem free1_seq (n b : Nat) (w : World) (hB : Boxed w b 30 (.pointer (some ⟨f, 0, none⟩))) (ho : FsO B f d m vf rp x w) (hd : DevAt Bd d s fpd w)
    (hN1 : 32 ≤ s.safe.length) (hN2 : s.safe.length ≤ 16384) (hfl : (Pl.flatB x.safe.files).length ≤ 1073741824) (hbf : ∀ q ∈ Pl.flatB x.safe.files, -9223372036854775808 ≤ q ∧ q ≤ 9223372036854775807) :
    SeqG Fence.wide n Tryz.prog 97 #[.pointer (some ⟨b, 0, none⟩)] encI (fun k => k = b ∨ fsFp f m rp k ∨ fpd k) (fun k => k = b ∨ fsFp f m rp k ∨ fpd k) (fun ys => ys = Pl.freeU x.safe s.safe.length) (fun ys => ys <+: Pl.freeU x.safe s.safe.length) w := by
  intro lp J Jx W fp hkm hdj hlt hJ hJx hY h0
  have hB0 := hkm.boxed (.inl rfl) hB
  have ho0 := ho.keep (hkm.mono (fun k hk _ => .inr (.inl hk)))
  have hd0 := hd.keep (hkm.mono (fun k hk _ => .inr (.inr hk)))
  have hml : ∀ k, (k = b ∨ fsFp f m rp k ∨ fpd k) → k < W.heap.size := fun k hk => by
    rcases hk with rfl | hk | hk
    · exact hB0.lt
    · exact ho0.fpLt k hk
    · exact hd0.lt k hk
  clear hkm hB ho hd
  obtain ⟨N, hN⟩ : ∃ N, N = s.safe.length := ⟨_, rfl⟩
  rw [← hN] at hN1 hN2 hY ⊢
  replace hN := Lib.hid hN
  have hmm := @run_makeMap Tryz.prog
  obtain ⟨W1, hW1⟩ : ∃ W1, W1 = W.alloc (.map #[] 0) := ⟨_, rfl⟩
  have hS1 : SetAt W1 W.heap.size [] := by rw [hW1]; exact SetAt.new W
  have hb1 : Below W.heap.size W W1 := by rw [hW1]; exact (Below.refl _ _).alloc (Nat.le_refl _) _
  have hbx := hB0.lt
  have bc : W.cell? ⟨b, 0, none⟩ = some (.pointer (some ⟨f, 0, none⟩)) := hB0.cell
  have hfx := ho0.blk.lt
  obtain ⟨c0, c1, c2, c3, c4, c5⟩ := ho0.cells
  have q0 := (hb1.cell (p := ⟨b, 0, none⟩) hbx).trans bc
  have q3 := (hb1.cell (p := ⟨f, 3, none⟩) hfx).trans c3
  obtain ⟨ao, cap, rfl, hcl, hcm, hrow⟩ := ho0.files
  refine callsIn_of_wp Tryz.func97 rfl trivial (wpIn_wide.2 ?_) rfl
  simp only [Tryz.ntmps97, List.size_toArray, List.length_cons, List.length_nil, Nat.reduceAdd, Nat.reduceSub, Array.replicate_succ, Array.replicate_zero, List.push_toArray, List.append_toArray, List.nil_append, List.cons_append]
  go_wp2_with fail
  rw [← hW1]
  have hmz : W.heap.size < W1.heap.size := hS1.lt
  generalize hmme : W.heap.size = mm at hS1 hmz ⊢
  have hmb : W.heap.size ≤ mm := by omega
  replace hmme := Lib.hid hmme
  clear hW1 q0 q3 c0 c1 c2 c3 c4 c5 bc
  replace hbf := Lib.hid hbf
  go_loopw [16] (fun i W' => ∃ k : Nat, k ≤ x.safe.files.length ∧ i = .int .i64 (k : Int) ∧ Below W.heap.size W W' ∧ SetAt W' mm (Pl.flatB (x.safe.files.take k))) (fun i _ => x.safe.files.length - (intOf i).toNat)
  case atStart => exact ⟨0, by omega, rfl, hb1, by simpa [Pl.flatB] using hS1⟩
  clear hb1 hS1 hmz
  case round =>
    obtain ⟨k, hk, rfl, hbr, hSr⟩ := hrel
    have hwr := hbr.size
    by_cases hkl : k < x.safe.files.length
    case pos =>
      obtain ⟨bR, oR, rfl, hbR, hrp, hx⟩ := hrow (by omega)
      obtain ⟨z0, z1, u, z2, hu⟩ := hx k hkl
      replace z0 := (hbr.cell (p := ⟨bR, oR + k * 3, none⟩) hbR).trans z0
      replace z1 := (hbr.cell (p := ⟨bR, oR + k * 3 + 1, none⟩) hbR).trans z1
      replace z2 := (hbr.cell (p := ⟨bR, oR + k * 3 + 2, none⟩) hbR).trans z2
      obtain ⟨ai, ci, rfl, i1, i2, hib⟩ := hu.1
      have hft := Lib.hid (Pl.flatB_take hkl)
      have hfl2 : (Pl.flatB (x.safe.files.take k) ++ x.safe.files[k].blocks).length ≤ 1073741824 := by
        rw [← hft.out]
        have h1 := congrArg (fun l => (Pl.flatB l).length) (List.take_append_drop (k + 1) x.safe.files)
        simp only [Pl.flatB, List.flatMap_append, List.length_append] at h1 hfl ⊢
        omega
      have hbm := Lib.hid (fun j (hj : j < x.safe.files[k].blocks.length) => hbf.out x.safe.files[k].blocks[j] (List.mem_flatMap.2 ⟨_, List.getElem_mem hkl, List.getElem_mem hj⟩))
      clear hx hrow hu
      generalize x.safe.files[k] = y at *
      generalize Pl.flatB (x.safe.files.take k) = seen at *
      obtain ⟨ynm, ysz, ybl⟩ := y
      simp only at z0 z1 z2 i1 i2 hib hft hfl2 hbm
      have hbox : Below wr.heap.size wr (wr.alloc (.cells #[.string ynm, .int .i64 ysz, .slice ai ybl.length ci] 76)) := (Below.refl _ _).alloc (Nat.le_refl _) _
      have hb2 := hbr.trans (hbox.mono hwr)
      have hS2 := hSr.below hbox
      go_wp2_with fail
      generalize wr.alloc (.cells #[.string ynm, .int .i64 ysz, .slice ai ybl.length ci] 76) = w2 at hbox hb2 hS2 ⊢
      obtain ⟨wo, rfl⟩ : ∃ wo : World, wo = wr := ⟨_, rfl⟩
      have hw2 := hb2.size
      clear hbox hSr z0 z1 z2
      go_loopw [23] (fun i W' => ∃ j : Nat, j ≤ ybl.length ∧ i = .int .i64 (j : Int) ∧ Below W.heap.size W W' ∧ SetAt W' mm (seen ++ ybl.take j)) (fun i _ => ybl.length - (intOf i).toNat)
      case atStart => exact ⟨0, by omega, rfl, hb2, by simpa using hS2⟩
      clear hb2 hS2
      case round =>
        obtain ⟨j, hj, rfl, hbj, hSj⟩ := hrel
        by_cases hjl : j < ybl.length
        · obtain ⟨bI, oI, rfl, hbI, hxi⟩ := hib (by omega)
          have cI := (hbj.cell (p := ⟨bI, oI + j, none⟩) hbI).trans (hxi j hjl)
          have hbd := hbm.out j hjl
          have hsn := Lib.hid (show seen ++ ybl.take (j + 1) = seen ++ ybl.take j ++ [ybl[j]] by rw [List.take_succ_eq_append_getElem hjl, List.append_assoc])
          obtain ⟨wU, hU1, hU2, hU3⟩ := hSj.put ybl[j] hbd.1 hbd.2 (by unfold maxLen; have : (seen ++ ybl.take j).length ≤ (seen ++ ybl).length := by simp [List.length_take]; omega
                                                                       omega)
          have hbU := below_turned hbj hbj.size hmb hU3
          clear hxi hib
          generalize ybl[j] = yj at *
          rw [← hsn.out] at hU2
          go_wp2
          go_roundw
          case rel => exact ⟨j + 1, by omega, by go_num, hbU, hU2⟩
          case measure => simp [intOf]; omega
        · obtain rfl : j = ybl.length := by omega
          rw [List.take_of_length_le (Nat.le_refl _), ← hft.out] at hSj
          go_wp2
          go_roundw
          case rel => exact ⟨k + 1, by omega, by go_num, hbj, hSj⟩
          case measure => simp [intOf]; omega
    obtain rfl : k = x.safe.files.length := by omega
    rw [List.take_of_length_le (Nat.le_refl _)] at hSr
    obtain ⟨w3, rfl⟩ : ∃ w3 : World, w3 = wr := ⟨_, rfl⟩
    have hk3 : Keep (fun k => k = b ∨ fsFp f m rp k ∨ fpd k) W w3 := Keep.of_below hbr (fun k hk _ => hml k hk)
    have hJ3 := hJ _ _ _ _ h0 (Keep.of_below hbr (fun k hk _ => hlt k hk))
    have hlt3 : ∀ k, fp k → k < w3.heap.size := fun k hk => Nat.lt_of_lt_of_le (hlt k hk) hwr
    have hnm : ¬ fp mm := fun h => by have := hlt mm h; omega
    have hup0 := Lib.hid (Pl.freeU_low x.safe 32 (Nat.le_refl _))
    replace hml := Lib.hid hml
    clear h0 hbr hrow hkl hk
    go_wp2_with fail
    go_loopw [8] (fun i W' => ∃ (c : Nat) (fp' : Nat → Prop), 32 ≤ c ∧ c ≤ N ∧ i = .int .i64 (c : Int) ∧ Keep (fun k => k = b ∨ fsFp f m rp k ∨ fpd k) W W' ∧ SetAt W' mm (Pl.flatB x.safe.files) ∧ ¬ fp' mm ∧ (∀ z, fp' z → fp z ∨ W.heap.size ≤ z) ∧ (∀ z, fp' z → z < W'.heap.size) ∧ J (Pl.freeU x.safe c) fp' W') (fun i _ => N - (intOf i).toNat)
    case atStart => exact ⟨32, fp, Nat.le_refl _, hN1, rfl, hk3, hSr, hnm, fun _ h => .inl h, hlt3, by rw [hup0.out]; exact hJ3⟩
    clear hk3 hSr hnm hlt3 hJ3 hup0
    case round =>
      obtain ⟨c, fp', hc1, hc2, rfl, hkp, hSr, hnm', hn', hlt', hJ'⟩ := hrel
      have hBr := hkp.boxed (.inl rfl) hB0
      have hor := ho0.keep (hkp.mono (fun k hk _ => .inr (.inl hk)))
      have hdr := hd0.keep (hkp.mono (fun k hk _ => .inr (.inr hk)))
      have bc : wr.cell? ⟨b, 0, none⟩ = some (.pointer (some ⟨f, 0, none⟩)) := hBr.cell
      obtain ⟨c0, c1, c2, c3, c4, c5⟩ := hor.cells
      have PB := Lib.hid (blocks_any hdr)
      rw [← hN.out] at PB
      have hmr := hSr.lt
      by_cases hcN : c < N
      case neg =>
        obtain rfl : c = N := by omega
        clear hBr hor hdr
        go_wp2_with fail
        refine PB.out.mono ?_
        rintro e w5 ⟨rfl, rfl⟩
        go_wp2
        go_end0
        exact SeqEnd.all hkp hn' hlt' _ rfl hJ'
      have hsuc := Lib.hid (Pl.freeU_succ x.safe c)
      have hpre := Lib.hid (Pl.freeU_pre x.safe (show c + 1 ≤ N by omega))
      have hlk := hSr.look (c : Int) (by omega) (by omega)
      have hokF : Pl.okF x.safe c = !decide ((c : Int) ∈ Pl.flatB x.safe.files) := by unfold Pl.okF; rw [decide_eq_true hc1]; rfl
      rw [hokF] at hsuc
      clear hBr hor hdr hokF
      cases htk : decide ((c : Int) ∈ Pl.flatB x.safe.files) with
      | true =>
        rw [htk] at hlk hsuc
        clear htk
        go_wp2_with fail
        refine PB.out.mono ?_
        rintro e w5 ⟨rfl, rfl⟩
        go_wp2
        go_roundw
        case rel => exact ⟨c + 1, fp', by omega, by omega, by go_num, hkp, hSr, hnm', hn', hlt', by rw [hsuc.out]; simpa using hJ'⟩
        case measure => simp [intOf]; omega
      | false =>
        rw [htk] at hlk hsuc
        clear htk
        have hsuc2 : Pl.freeU x.safe (c + 1) = Pl.freeU x.safe c ++ [(c : Int)] := by rw [hsuc.out]; rfl
        rw [hsuc2] at hpre
        obtain ⟨fn, tmps, assign, body, hy, hRd⟩ := hY (Pl.freeU x.safe c) (c : Int) fp' wr hJ' hlt' hpre.out
        unfold encI at hy
        replace hsuc2 := Lib.hid hsuc2
        clear hY
        go_wp2_with fail
        refine PB.out.mono ?_
        rintro e w5 ⟨rfl, rfl⟩
        go_upto_region 13 with (fail)
        refine (wpIn_wide (n := n)).1 ?_
        gi_wp2
        refine ⟨fun h => (by cases h), hRd.mono ?_⟩
        have hdis : ∀ z, (z = b ∨ fsFp f m rp z ∨ fpd z) → ¬ fp' z := fun z hz h => by
          rcases hn' z h with h1 | h1
          · exact hdj z h1 hz
          · have := hml.out z hz; omega
        rintro e W3 (⟨rfl, fp3, hJ3, st3⟩ | ⟨rfl, fp3, hJ3, st3⟩)
        all_goals
          clear hy
          have hk3 : Keep (fun k => k = b ∨ fsFp f m rp k ∨ fpd k) W W3 := hkp.trans st3.keep (fun z h _ => hdis z h)
          have hS3 := hSr.keep st3.keep hnm'
          have hnm3 : ¬ fp3 mm := st3.other hnm' hmr
          have hkz := hkp.size
          have hn3 : ∀ z, fp3 z → fp z ∨ W.heap.size ≤ z := fun z h => by
            rcases st3.new z h with h | h
            · exact hn' z h
            · exact .inr (by omega)
        · gi_wp2
          go_wp2
          go_roundw
          case rel => exact ⟨c + 1, fp3, by omega, by omega, by go_num, hk3, hS3, hnm3, hn3, st3.lt, by rw [hsuc2.out]; exact hJ3⟩
          case measure => simp [intOf]; omega
        · gi_wp2
          go_wp2
          refine bodyPost_ret (results_none rfl _ _ _) rfl ?_
          exact SeqEnd.part hk3 hn3 st3.lt _ hpre.out hJ3
end
section
open Go.RowKit Go.Shelf
attribute [local go_sem] Oper.semAt_some
variable {B Bd f d m : Nat} {vf : Value} {x : Pl.Fs} {s : Pl.Dv} {rp fp fpd : Nat → Prop} {W W' : World}
theorem Keep.or {g1 g2 : Nat → Prop} {A B : World} (h : Keep g1 A B) (k : Keep g2 A B) : Keep (fun i => g1 i ∨ g2 i) A B :=
 ⟨h.os, h.tape, h.output, h.size, fun i hi hl => by rcases hi with hi | hi; exact h.block i hi hl; exact k.block i hi hl⟩
def Pl.Fs.freeN (x : Pl.Fs) (s : Pl.Dv) : Nat := if x.dead s = true then 0 else (Pl.freeU x.safe s.safe.length).length
theorem Pl.freeU_length (r : Pl.RootP) (n : Nat) : (Pl.freeU r n).length ≤ n := by
 unfold Pl.freeU
 rw [List.length_map]
 exact Nat.le_trans (List.length_filter_le _ _) (by simp)
set_option maxHeartbeats 400000 in
theorem freeN_any (h : FsAt B f d x fp W) (hd : DevAt Bd d s fpd W) (hdj : ∀ k, fp k → ¬ fpd k) (hN1 : 32 ≤ s.safe.length) (hN2 : s.safe.length ≤ 16384) (hfl : (Pl.flatB x.safe.files).length ≤ 1073741824) (hbf : ∀ q ∈ Pl.flatB x.safe.files, -9223372036854775808 ≤ q ∧ q ≤ 9223372036854775807) :
  Calls Tryz.prog 27 #[.pointer (some ⟨f, 0, none⟩)] W fun e w' => e = .returned (.int .i64 (x.freeN s : Int)) ∧ Below W.heap.size W w' := by
 obtain ⟨E, hE⟩ : ∃ E, E = x.freeN s := ⟨_, rfl⟩
 rw [← hE]
 obtain ⟨m, vf, rp, ho, rfl⟩ := id h
 refine (callsIn_wide (n := 6)).1 ?_
 cases hdd : x.dead s with
 | true =>
  have PD := Lib.hid (dead_is hdd h hd)
  obtain rfl : E = 0 := by rw [hE]; unfold Pl.Fs.freeN; rw [if_pos hdd]
  clear hE hdd
  refine callsIn_of_wp_marks Tryz.func27 rfl trivial (wpIn_wide.2 ?_) rfl
  simp only [Tryz.ntmps27, List.size_toArray, List.length_cons, List.length_nil, Nat.reduceAdd, Nat.reduceSub, Array.replicate_succ, Array.replicate_zero, List.push_toArray, List.append_toArray, List.nil_append, List.cons_append]
  go_wp2_with fail
  refine PD.out.mono ?_
  rintro e w1 ⟨rfl, n, e1⟩
  have hb1 : Below W.heap.size W w1 := e1 ▸ below_drewN (Below.refl _ _) n
  clear e1
  go_wp2
  refine leaves_marks [] _ (Marked.nil _) (fun W' hk' => ⟨_, results_tmp rfl _ _ _, rfl, ?_⟩)
  exact hk'.below hb1 (Nat.le_refl _) (fun _ _ => by simp)
 | false =>
  have PD := Lib.hid (dead_is hdd h hd)
  have hE2 : E = (Pl.freeU x.safe s.safe.length).length := by rw [hE]; unfold Pl.Fs.freeN; rw [if_neg (by rw [hdd]; exact Bool.false_ne_true)]
  clear hE hdd
  replace hE2 := Lib.hid hE2
  refine callsIn_of_wp_marks Tryz.func27 rfl trivial (wpIn_wide.2 ?_) rfl
  simp only [Tryz.ntmps27, List.size_toArray, List.length_cons, List.length_nil, Nat.reduceAdd, Nat.reduceSub, Array.replicate_succ, Array.replicate_zero, List.push_toArray, List.append_toArray, List.nil_append, List.cons_append]
  go_wp2_with fail
  refine PD.out.mono ?_
  rintro e w1 ⟨rfl, n, e1⟩
  have ho1 := ho.keep (keep_drewN e1 _)
  have hd1 := hd.keep (keep_drewN e1 _)
  have hb1 : Below W.heap.size W w1 := e1 ▸ below_drewN (Below.refl _ _) n
  clear e1
  go_wp2_with (go_at_call 68; refine (callsIn_wide.1 (free_in 5 _)).mono ?_; rintro e w' ⟨rfl, rfl⟩)
  have bN := (Boxed.new w1 3 (.int .i64 0)).alloc (.cells #[.pointer (some ⟨f, 0, none⟩)] 30)
  have bL := Boxed.new (w1.alloc (.cells #[.int .i64 0] 3)) 30 (.pointer (some ⟨f, 0, none⟩))
  rw [World.size_alloc] at bL
  have hbd : Below w1.heap.size w1 ((w1.alloc (.cells #[.int .i64 0] 3)).alloc (.cells #[.pointer (some ⟨f, 0, none⟩)] 30)) := ((Below.refl _ _).alloc (Nat.le_refl _) _).alloc (by simp) _
  have hzd : ((w1.alloc (.cells #[.int .i64 0] 3)).alloc (.cells #[.pointer (some ⟨f, 0, none⟩)] 30)).heap.size = w1.heap.size + 2 := by simp
  generalize (w1.alloc (.cells #[.int .i64 0] 3)).alloc (.cells #[.pointer (some ⟨f, 0, none⟩)] 30) = W2 at bN bL hbd hzd ⊢
  have ho2 := ho1.beyond hbd
  have hd2 := hd1.beyond hbd
  have hfl1 := ho1.fpLt
  have hfl2 := hd1.lt
  clear PD
  refine wpIn_wide.1 (wpIn_rangeG (n := 6) (F := Fence.wide) rfl (by omega) (gf := 97) (lb := #[.pointer (some ⟨w1.heap.size + 1, 0, none⟩)]) rfl trivial (enters_of Tryz.func97 (by kernel_rfl) rfl)
   (free1_seq 5 (w1.heap.size + 1) W2 bL ho2 hd2 hN1 hN2 hfl hbf) (fun _ => rfl) (by rintro z (h | h | h); omega; (have := hfl1 z h; omega); (have := hfl2 z h; omega)) (by rintro z (h | h | h); omega; (have := hfl1 z h; omega); (have := hfl2 z h; omega))
   (fun pre fp X => (∀ z, z < w1.heap.size + 1 → ¬ fsFp f m rp z → ¬ fpd z → fp z) ∧ Boxed X w1.heap.size 3 (.int .i64 (pre.length : Int)) ∧ Keep (fun z => z < w1.heap.size ∧ ¬ fsFp f m rp z ∧ ¬ fpd z) W2 X)
   (fun _ _ _ _ => False)
   (fun pre y a' fp X => ((∀ z, z < w1.heap.size + 1 → ¬ fsFp f m rp z → ¬ fpd z → fp z) ∧ Boxed X w1.heap.size 3 (.int .i64 (pre.length : Int)) ∧ Keep (fun z => z < w1.heap.size ∧ ¬ fsFp f m rp z ∧ ¬ fpd z) W2 X) ∧ a' = { tmps := #[.pointer (some ⟨f, 0, none⟩), undef, .int .i64 0, .pointer (some ⟨w1.heap.size, 0, none⟩), .pointer (some ⟨f, 0, none⟩), .bool false, .bool false, .pointer (some ⟨f, 0, none⟩), .bool false, .bool false, .pointer (some ⟨f, 0, none⟩), .func (.func 97) #[] #[.pointer (some ⟨w1.heap.size + 1, 0, none⟩)], .int .i64 y, undef, undef, undef], defers := [] })
   ?_ ?_ ?_ (fun z => z < w1.heap.size + 1 ∧ ¬ fsFp f m rp z ∧ ¬ fpd z) ?_ ?_ ?_ ?assign ?body ?done ?stop)
  case assign =>
   intro l' pre y fp X K hI hlt hsp hK2
   unfold encI
   rw [fold1]
   simp only [List.setIfInBounds_toArray, List.set_cons_succ, List.set_cons_zero]
   gi_wp2
   exact hK2 _ fp X (Step.refl hlt) ⟨hI, rfl⟩
  case body =>
   rintro l' pre y a' fp X ⟨⟨hfp, hBX, hkX⟩, rfl⟩ hlt hsp
   have cX := hBX.cell
   have fX := hBX.frozen
   have lX := hBX.lt
   have hpl : pre.length ≤ 16384 := by
    have h1 := hsp.length_le
    have h2 := Pl.freeU_length x.safe s.safe.length
    rw [List.length_append] at h1
    omega
   have hc0 : ¬ fsFp f m rp w1.heap.size := fun h => by have := hfl1 _ h; omega
   have hc1 : ¬ fpd w1.heap.size := fun h => by have := hfl2 _ h; omega
   gi_wp2
   have e1 : (pre.length : Int) + 1 = (((pre ++ [y]).length : Nat) : Int) := by simp
   rw [e1]
   refine ⟨fp, ⟨hfp, hBX.set _, (hkX.setCell _ _ _ (fun h _ => by have := h.1; omega))⟩, ⟨(Keep.refl _ X).setCell _ _ _ (fun h _ => h (hfp _ (by omega) hc0 hc1)), fun _ h => .inl h, fun z hz => ?_⟩⟩
   have := hlt z hz
   simpa [World.setCell] using this
  case done =>
   rintro D ys fp X hD hnD hnew hlt hkp rfl ⟨hfp, hBX, hkX⟩ hKD
   have hkX2 : Keep (fun z => z < w1.heap.size) W2 X := (hkX.or hkp).mono (fun z hz _ => by
    by_cases h1 : fsFp f m rp z
    ·exact .inr (.inr (.inl h1))
    ·by_cases h2 : fpd z
     ·exact .inr (.inr (.inr h2))
     ·exact .inl ⟨hz, h1, h2⟩)
   have hbX : Below W.heap.size W X := hkX2.below (hb1.trans (hbd.mono hb1.size)) (Nat.le_refl _) (fun k hk => by have := hb1.size; omega)
   have cX := hBX.cell
   clear hkp hkX hfp hlt hnew
   have hDl : W.heap.size ≤ D := by have := hb1.size; omega
   go_wp2
   refine leaves_marks [D] _ ((Marked.nil _).cons hKD (by simp)) (fun W' hk' => ⟨_, results_tmp rfl _ _ _, ?_⟩)
   refine ⟨by rw [hE2.out]; rfl, hk'.below hbX (Nat.le_refl _) (fun k hk => by simp; omega)⟩
  case stop =>
   rintro D c pre fp X _ _ _ _ _ _ h
   exact h.elim
  ·rintro pre f1 X X' ⟨hf, hb, hk⟩ hkp
   exact ⟨hf, hkp.boxed (hf _ (by omega) (fun h => by have := hfl1 _ h; omega) (fun h => by have := hfl2 _ h; omega)) hb, hk.trans hkp (fun z hz _ => hf z (by have := hz.1; omega) hz.2.1 hz.2.2)⟩
  ·rintro c pre f1 X X' h
   exact h.elim
  ·rintro pre y a' _ f1 X X' ⟨⟨hf, hb, hk⟩, he⟩ hkp
   exact ⟨⟨hf, hkp.boxed (hf _ (by omega) (fun h => by have := hfl1 _ h; omega) (fun h => by have := hfl2 _ h; omega)) hb, hk.trans hkp (fun z hz _ => hf z (by have := hz.1; omega) hz.2.1 hz.2.2)⟩, he⟩
  ·rintro z ⟨hz1', hz2', hz3⟩ (h | h | h)
   ·omega
   ·exact hz2' h
   ·exact hz3 h
  ·rintro z ⟨hz1', _, _⟩; omega
  ·exact ⟨fun z h1 h2 h3 => ⟨h1, h2, h3⟩, by simpa using bN, Keep.refl _ _⟩
end
section
open Go.RowKit Go.Shelf
attribute [local go_sem] Oper.semAt_some
def ncellsI (l : List Int) : List Value := l.map fun b => .int .i64 b
theorem ncellsI_snoc (l : List Int) (b : Int) : ncellsI (l ++ [b]) = ncellsI l ++ [.int .i64 b] := by simp [ncellsI]
theorem info_intI : (Tryz.prog.info? 3).map (fun i => (i.zero, i.size, i.bytes)) = some (some (.int .i64 0), 1, 8) := by kernel_rfl
set_option maxHeartbeats 1000000 in
theorem appendSeqI_in (n : Nat) (hn : 3 ≤ n) {gf : Nat} (lb : Array Value) (eg : ∀ args w, (callFunc gf args).run Tryz.prog w = .ok (.enter gf args) w) (mfp : Nat → Prop) (xs : List Int) (hxs : xs.length ≤ 1073741824) (w : World) (hm : ∀ k, mfp k → k < w.heap.size)
  (hseq : SeqG Fence.wide (n - 1) Tryz.prog gf lb encI mfp mfp (fun ys => ys = xs) (fun ys => ys <+: xs) w) :
  CallsIn Fence.wide n Tryz.prog 127 #[.slice none 0 0, .func (.func gf) #[] lb] w fun e w' => ∃ v, e = .returned v ∧ w'.ownsRow w.heap.size 3 1 v xs.length (ncellsI xs) ∧ Below w.heap.size w w' := by
 refine callsIn_of_wp_marks Tryz.func127 rfl trivial ?_ rfl
 simp only [Tryz.ntmps127, List.size_toArray, List.length_cons, List.length_nil, Nat.reduceAdd, Nat.reduceSub, Array.replicate_succ, Array.replicate_zero, List.push_toArray, List.append_toArray, List.nil_append, List.cons_append]
 gi_wp2
 have bL := Boxed.new w 74 (.slice none 0 0)
 have hk : ∀ g : Nat → Prop, Keep g w (w.alloc (.cells #[.slice none 0 0] 74)) := fun g => (Keep.refl g w).alloc _
 have hz : (w.alloc (.cells #[.slice none 0 0] 74)).heap.size = w.heap.size + 1 := by simp
 generalize w.alloc (.cells #[.slice none 0 0] 74) = W0 at bL hk hz ⊢
 have h1 : 1 ≤ n := by omega
 refine wpIn_rangeG (F := Fence.wide) rfl h1 (gf := gf) (lb := lb) rfl trivial eg (hseq.later (hk mfp)) (fun _ => rfl) (fun k h => by have := hm k h; omega) (fun k h => by have := hm k h; omega)
  (fun pre fp W => Col w mfp w.heap.size 74 3 1 ncellsI pre fp W)
  (fun _ _ _ _ => False)
  (fun pre y a' fp W => Col w mfp w.heap.size 74 3 1 ncellsI pre fp W ∧ a' = { tmps := #[.slice none 0 0, .func (.func gf) #[] lb, .pointer (some ⟨w.heap.size, 0, none⟩), undef, .slice none 0 0, .int .i64 y, .func (.func gf) #[] lb, .int .i64 y, undef, undef, undef, undef, undef], defers := [] })
  ?_ ?_ ?_ (fun k => (k < w.heap.size ∧ ¬ mfp k) ∨ k = w.heap.size) ?_ ?_ ?_ ?assign ?body ?done ?stop
 case assign =>
  intro l pre y fp W K hC hlt hsp hK
  unfold encI
  rw [fold1]
  simp only [List.setIfInBounds_toArray, List.set_cons_succ, List.set_cons_zero]
  gi_wp2
  exact hK _ _ _ (Step.refl hlt) ⟨hC, rfl⟩
 case body =>
  rintro l pre y a' fp W ⟨⟨⟨v, bL, hr, fL, fR⟩, hT2, hk2⟩, rfl⟩ hlt hsp
  have cL := bL.cell
  have hlb : pre.length + 1 ≤ 1073741824 := by
   have h1 := hsp.length_le
   rw [List.length_append, List.length_singleton] at h1
   omega
  gi_wp2_with (gi_at_builtin; go_must (refine wpListIn_app1 (by rfl) _ _ 74 (by rfl) w.heap.size 3 (.int .i64 0) 1 8 Tryz.underlying74 info_intI rfl (by decide) v pre.length (ncellsI pre) W hr (by have := hk2.size; omega) (by rfl) #[.int .i64 y] 3 (by rfl) rfl (by simp [Value.oneCell']) (by omega) (by decide) ?_; intro g cap w1 hown' hgrow hat hg; have ⟨bL1, hW2⟩ := Col.append (x := y) ⟨hT2, hk2⟩ bL hr fL fR hlt (by omega) (by decide) hown' hgrow hat hg (by rw [ncellsI_snoc]); have cL1 := bL1.cell; have fL1 := bL1.frozen))
  obtain ⟨bL2, st, hC2⟩ := hW2 _ rfl
  exact ⟨_, hC2, st⟩
 case done =>
  rintro D ys fp W hD hnD hnew hlt hkT rfl ⟨⟨v, bL, hr, fL, fR⟩, hT2, hk2⟩ hK
  have cL := bL.cell
  have hb : Below w.heap.size w W := by
   have h2 : Keep (fun k => k < w.heap.size) w W := (hk2.or ((hk mfp).trans hkT (fun _ h _ => h))).mono (fun k hk _ => by
    by_cases h : mfp k
    ·exact .inr h
    ·exact .inl ⟨hk, h⟩)
   exact h2.below (Below.refl _ _) (Nat.le_refl _) (fun _ h => h)
  gi_wp2
  refine leaves_marks [D] _ ((Marked.nil _).cons hK (by simp)) (fun W' hk' => ⟨_, results_tmp rfl _ _ _, v, rfl, ?_, ?_⟩)
  ·exact hk'.ownsRow hr (fun k e => by simp; intro e2; exact hnD (e2 ▸ fR k e))
  ·exact hk'.below hb (Nat.le_refl _) (fun k hk => by simp; omega)
 case stop =>
  rintro D c pre fp W _ _ _ _ _ _ h
  exact h.elim
 ·exact Col.abide _ _ _ _ _ _ _
 ·rintro c pre fp W W' h
  exact h.elim
 ·rintro pre y a' _ fp W W' ⟨h, he⟩ hkp
  exact ⟨Col.abide _ _ _ _ _ _ _ _ _ _ _ h hkp, he⟩
 ·rintro k (h1 | h1) h2
  ·exact h1.2 h2
  ·have := hm k h2; omega
 ·rintro k (h1 | h1) <;> omega
 ·exact ⟨⟨_, bL, World.ownsRow_nil _ _ _ _, .inr rfl, fun k e => by cases e⟩, fun k h1 h2 => .inl ⟨h1, h2⟩, hk _⟩
theorem collectI_in (n : Nat) (hn : 4 ≤ n) {gf : Nat} (lb : Array Value) (eg : ∀ args w, (callFunc gf args).run Tryz.prog w = .ok (.enter gf args) w) (mfp : Nat → Prop) (xs : List Int) (hxs : xs.length ≤ 1073741824) (w : World) (hm : ∀ k, mfp k → k < w.heap.size)
  (hseq : SeqG Fence.wide (n - 1 - 1) Tryz.prog gf lb encI mfp mfp (fun ys => ys = xs) (fun ys => ys <+: xs) w) :
  CallsIn Fence.wide n Tryz.prog 98 #[.func (.func gf) #[] lb] w fun e w' => ∃ v, e = .returned v ∧ w'.ownsRow w.heap.size 3 1 v xs.length (ncellsI xs) ∧ Below w.heap.size w w' := by
 refine callsIn_of_wp Tryz.func98 rfl trivial ?_ rfl
 simp only [Tryz.ntmps98, List.size_toArray, List.length_cons, List.length_nil, Nat.reduceAdd, Nat.reduceSub, Array.replicate_succ, Array.replicate_zero, List.push_toArray, List.append_toArray, List.nil_append, List.cons_append]
 gi_wp2_with fail
 refine ⟨trivial, fun h => (by cases h), (appendSeqI_in (n - 1) (by omega) lb eg mfp xs hxs w hm hseq).mono ?_⟩
 rintro e w' ⟨v, rfl, hr, hb⟩
 gi_wp2
 go_ret
 exact ⟨v, rfl, hr, hb⟩
end
end Go.Proofs.YtogblcdefbnbeaaGreat
