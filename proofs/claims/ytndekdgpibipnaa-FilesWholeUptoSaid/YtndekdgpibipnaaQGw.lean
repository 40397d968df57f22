
/- The kit's contracts on the sorted keys of a map, laid at this program (written by the kit's tools). Condition: none.
   Walks: the names at hand, sorted. Condition: few enough. -/
import Derived.Shelf.SlGeneric
import Derived.Shelf.SlIter.Nil
import Derived.Shelf.SortM.Plain
import Derived.Shelf.SortM.SortNone
import Derived.Test.YtndekdgpibipnaaQGu
import Derived.Test.YtndekdgpibipnaaQGx
import Derived.Maps.Ext
import Derived.Outline

namespace Go.Proofs.Ytndekdgpibipnaa
open Go.Shelf Go.Proofs
def layKeys_ren : Go.Shelf.Ren := ⟨fun | 7 => 85 | 10 => 107 | n => n, fun | 23 => 125 | 26 => 9 | 3 => 134 | 28 => 141 | 0 => 0 | 27 => 140 | 33 => 138 | 4 => 4 | n => n, fun | n => n⟩
theorem layKeys : Go.Proofs.SlLaysZ.n7 Try.prog layKeys_ren := {
  mixed := by kernel_rfl
  f7 := ⟨Try.f85.name, by decide, Try.func85.trans (congrArg some (by kernel_rfl))⟩
  f10 := ⟨Try.f107.name, by decide, Try.func107.trans (congrArg some (by kernel_rfl))⟩
  t0 := Try.underlying0
  a0 := Try.isAgg0
  z0 := Try.sizeOf0
  v0 := Try.zeroValue0
  t4 := Try.underlying4
  a4 := Try.isAgg4
  z4 := Try.sizeOf4
  v4 := Try.zeroValue4
  t23 := Try.underlying125
  a23 := Try.isAgg125
  z23 := Try.sizeOf125
  v23 := Try.zeroValue125
  t26 := Try.underlying9
  a26 := Try.isAgg9
  z26 := Try.sizeOf9
  v26 := Try.zeroValue9
  t27 := Try.underlying140
  a27 := Try.isAgg140
  z27 := Try.sizeOf140
  v27 := Try.zeroValue140
  t28 := Try.underlying141
  a28 := Try.isAgg141
  z28 := Try.sizeOf141
  v28 := Try.zeroValue141
  t33 := Try.underlying138
  a33 := Try.isAgg138
  z33 := Try.sizeOf138
  v33 := Try.zeroValue138 }
def laySorted_ren : Go.Shelf.Ren := ⟨fun | 6 => 84 | 8 => 105 | 9 => 106 | 11 => 114 | 13 => 116 | 12 => 115 | 23 => 126 | 24 => 127 | 14 => 117 | 15 => 118 | 16 => 119 | 17 => 120 | 18 => 121 | 19 => 122 | 20 => 123 | 21 => 124 | 22 => 125 | 25 => 128 | 26 => 129 | 27 => 130 | 28 => 131 | 29 => 132 | 30 => 133 | 31 => 134 | n => n, fun | 26 => 9 | 28 => 141 | 24 => 44 | 0 => 0 | 3 => 3 | 37 => 149 | 48 => 152 | 50 => 47 | 4 => 4 | 40 => 173 | 39 => 172 | 45 => 178 | 5 => 5 | 9 => 9 | 51 => 182 | 55 => 186 | 57 => 188 | 58 => 189 | 33 => 138 | n => n, fun | n => n⟩
theorem laySorted : Go.Proofs.SlLaysZ.n6 Try.prog laySorted_ren := {
  mixed := by kernel_rfl
  f6 := ⟨Try.f84.name, by decide, Try.func84.trans (congrArg some (by kernel_rfl))⟩
  f8 := ⟨Try.f105.name, by decide, Try.func105.trans (congrArg some (by kernel_rfl))⟩
  f11 := ⟨Try.f114.name, by decide, Try.func114.trans (congrArg some (by kernel_rfl))⟩
  t0 := Try.underlying0
  a0 := Try.isAgg0
  z0 := Try.sizeOf0
  v0 := Try.zeroValue0
  t24 := Try.underlying44
  a24 := Try.isAgg44
  z24 := Try.sizeOf44
  v24 := Try.zeroValue44
  t26 := Try.underlying9
  a26 := Try.isAgg9
  z26 := Try.sizeOf9
  v26 := Try.zeroValue9
  t28 := Try.underlying141
  a28 := Try.isAgg141
  z28 := Try.sizeOf141
  v28 := Try.zeroValue141
  i26 := by kernel_rfl }
def laySort_ren : Go.Shelf.Ren := ⟨fun | 6 => 106 | 8 => 116 | 9 => 115 | 19 => 126 | 20 => 127 | 21 => 117 | 22 => 118 | 23 => 119 | 24 => 120 | 25 => 121 | 26 => 122 | 27 => 123 | 28 => 124 | 29 => 125 | 36 => 128 | 31 => 129 | 32 => 130 | 37 => 131 | 38 => 132 | 39 => 133 | 41 => 134 | n => n, fun | 27 => 44 | 29 => 9 | 3 => 3 | 32 => 149 | 26 => 44 | 0 => 0 | 44 => 152 | 46 => 47 | 4 => 4 | 36 => 173 | 35 => 172 | 41 => 178 | 5 => 5 | 9 => 9 | 53 => 182 | 57 => 186 | 63 => 188 | 64 => 189 | n => n, fun | n => n⟩
theorem laySort : Go.Proofs.SlLaysM.n6 Try.prog laySort_ren := {
  mixed := by kernel_rfl
  f6 := ⟨Try.f106.name, by decide, Try.func106.trans (congrArg some (by kernel_rfl))⟩
  f8 := Try.func116.trans (congrArg some (by kernel_rfl))
  f9 := ⟨Try.f115.name, by decide, Try.func115.trans (congrArg some (by kernel_rfl))⟩
  f19 := Try.func126.trans (congrArg some (by kernel_rfl))
  f20 := Try.func127.trans (congrArg some (by kernel_rfl))
  f21 := ⟨Try.f117.name, by decide, Try.func117.trans (congrArg some (by kernel_rfl))⟩
  f22 := ⟨Try.f118.name, by decide, Try.func118.trans (congrArg some (by kernel_rfl))⟩
  f23 := ⟨Try.f119.name, by decide, Try.func119.trans (congrArg some (by kernel_rfl))⟩
  f24 := ⟨Try.f120.name, by decide, Try.func120.trans (congrArg some (by kernel_rfl))⟩
  f25 := ⟨Try.f121.name, by decide, Try.func121.trans (congrArg some (by kernel_rfl))⟩
  f26 := ⟨Try.f122.name, by decide, Try.func122.trans (congrArg some (by kernel_rfl))⟩
  f27 := ⟨Try.f123.name, by decide, Try.func123.trans (congrArg some (by kernel_rfl))⟩
  f28 := ⟨Try.f124.name, by decide, Try.func124.trans (congrArg some (by kernel_rfl))⟩
  f29 := ⟨Try.f125.name, by decide, Try.func125.trans (congrArg some (by kernel_rfl))⟩
  f31 := Try.func129.trans (congrArg some (by kernel_rfl))
  f32 := Try.func130.trans (congrArg some (by kernel_rfl))
  f36 := ⟨Try.f128.name, by decide, Try.func128.trans (congrArg some (by kernel_rfl))⟩
  f37 := ⟨Try.f131.name, by decide, Try.func131.trans (congrArg some (by kernel_rfl))⟩
  f38 := ⟨Try.f132.name, by decide, Try.func132.trans (congrArg some (by kernel_rfl))⟩
  f39 := ⟨Try.f133.name, by decide, Try.func133.trans (congrArg some (by kernel_rfl))⟩
  f41 := ⟨Try.f134.name, by decide, Try.func134.trans (congrArg some (by kernel_rfl))⟩
  t0 := Try.underlying0
  a0 := Try.isAgg0
  z0 := Try.sizeOf0
  v0 := Try.zeroValue0
  t3 := Try.underlying3
  a3 := Try.isAgg3
  z3 := Try.sizeOf3
  v3 := Try.zeroValue3
  t4 := Try.underlying4
  a4 := Try.isAgg4
  z4 := Try.sizeOf4
  v4 := Try.zeroValue4
  t5 := Try.underlying5
  a5 := Try.isAgg5
  z5 := Try.sizeOf5
  v5 := Try.zeroValue5
  t9 := Try.underlying9
  a9 := Try.isAgg9
  z9 := Try.sizeOf9
  v9 := Try.zeroValue9
  t26 := Try.underlying44
  a26 := Try.isAgg44
  z26 := Try.sizeOf44
  v26 := Try.zeroValue44
  t27 := Try.underlying44
  a27 := Try.isAgg44
  z27 := Try.sizeOf44
  v27 := Try.zeroValue44
  t29 := Try.underlying9
  a29 := Try.isAgg9
  z29 := Try.sizeOf9
  v29 := Try.zeroValue9
  t32 := Try.underlying149
  a32 := Try.isAgg149
  z32 := Try.sizeOf149
  v32 := Try.zeroValue149
  t35 := Try.underlying172
  a35 := Try.isAgg172
  z35 := Try.sizeOf172
  v35 := Try.zeroValue172
  t36 := Try.underlying173
  a36 := Try.isAgg173
  z36 := Try.sizeOf173
  v36 := Try.zeroValue173
  t41 := Try.underlying178
  a41 := Try.isAgg178
  z41 := Try.sizeOf178
  v41 := Try.zeroValue178
  t44 := Try.underlying152
  a44 := Try.isAgg152
  z44 := Try.sizeOf152
  v44 := Try.zeroValue152
  t46 := Try.underlying47
  a46 := Try.isAgg47
  z46 := Try.sizeOf47
  v46 := Try.zeroValue47
  t53 := Try.underlying182
  a53 := Try.isAgg182
  z53 := Try.sizeOf182
  v53 := Try.zeroValue182
  t57 := Try.underlying186
  a57 := Try.isAgg186
  z57 := Try.sizeOf186
  v57 := Try.zeroValue186
  t63 := Try.underlying188
  a63 := Try.isAgg188
  z63 := Try.sizeOf188
  v63 := Try.zeroValue188
  t64 := Try.underlying189
  a64 := Try.isAgg189
  z64 := Try.sizeOf189
  v64 := Try.zeroValue189 }
end Go.Proofs.Ytndekdgpibipnaa

namespace Go.Proofs.Ytndekdgpibipnaa
open Go.RowKit Go.Maps Go.Sort Go.Shelf

theorem bytesBefore_lt : ∀ {a b : List UInt8}, bytesBefore a b = true → a < b
  | [], [], h => by simp [bytesBefore] at h
  | [], _ :: _, _ => List.Lex.nil
  | _ :: _, [], h => by simp [bytesBefore] at h
  | a :: r, b :: s, h => by
    unfold bytesBefore at h
    simp only [Bool.or_eq_true, decide_eq_true_eq, Bool.and_eq_true, beq_iff_eq] at h
    rcases h with h | ⟨rfl, h⟩
    · exact List.Lex.rel h
    · exact List.Lex.cons (bytesBefore_lt h)
variable {B Bd f d m : Nat} {vf : Value} {x : Pl.Fs} {s : Pl.Dv} {rp fp fpd : Nat → Prop} {W W' : World}
/-- files at hand stand by rising names -/
theorem HandAt.rising {l : List (ByteArray × Pl.HF)} (h : HandAt rp W m l) : l.Pairwise (fun p q => bytesBefore p.1.data.toList q.1.data.toList = true) := by
  obtain ⟨es, e, hp, _⟩ := World.ownsMap.canon h str_law
  unfold Pl.toD at e
  injection e with e
  rw [← e, List.pairwise_map] at hp
  exact hp
def Pl.namesOf (l : List (ByteArray × Pl.HF)) : List ByteArray := l.map (·.1)
theorem strKeys_toD (l : List (ByteArray × Pl.HF)) : strKeys (Pl.toD l) = l.map fun p => p.1.data.toList := by
  unfold Pl.toD strKeys
  simp only [List.map_map]
  rfl
theorem sorts_any (m : Nat) : AnyZ.SortsIn Try.prog laySorted_ren Fence.wide m :=
  ⟨fun blk off cap ss W hH hblk hsz => callsIn_wide.2 (AnyM.slices_Sort_string laySort blk off cap ss W hH hblk hsz), fun p cap W => callsIn_wide.2 (AnyM.slices_Sort_string_none laySort p cap W)⟩
theorem mapsKeys_any (mb : Option Nat) (W : World) : CallsIn Fence.wide 5 Try.prog 85 #[.map mb] W fun e w' => e = .returned (.func (.func 107) #[] #[.pointer (some ⟨W.heap.size, 0, none⟩)]) ∧ w' = W.alloc (.cells #[.map mb] 125) :=
  AnyZ.keys_in layKeys Fence.wide 5 trivial rfl mb W
set_option maxHeartbeats 1000000 in
theorem sortedKeys_any {l : List (ByteArray × Pl.HF)} (hown : HandAt rp W m l) (hl : l.length ≤ 1073741824) :
    CallsIn Fence.wide 5 Try.prog 84 #[.func (.func 107) #[] #[.pointer (some ⟨W.heap.size, 0, none⟩)]] (W.alloc (.cells #[.map (some m)] 125)) fun e w' =>
      ∃ v, e = .returned v ∧ w'.ownsRow W.heap.size 9 1 v l.length ((Pl.namesOf l).map Value.string) ∧ Below W.heap.size W w' := by
  have hbl := World.ownsMap.lt hown
  have hris := hown.rising
  have hseq : SeqGives Fence.wide 2 Try.prog 107 #[.pointer (some ⟨W.heap.size, 0, none⟩)] encStr (fun ss => ss.Perm (strKeys (Pl.toD l))) (Maps.size (Pl.toD l)) (W.alloc (.cells #[.map (some m)] 125)) :=
    AnyZ.keys_gives (ρ := layKeys_ren) { layKeys with } Fence.wide _ trivial rfl (by omega) W.heap.size m l.length (Pl.toD l) _ (by simp) (by simp) (by
      obtain ⟨es, clock, hb, Ft, hs, hD⟩ := hown
      exact ⟨es, clock, (Below.heap_alloc _ _ m hbl).trans hb, Ft, hs, hD⟩)
  refine (AnyZ.sorted_in laySorted Fence.wide 5 trivial trivial trivial trivial rfl (by omega) (sorts_any _) (enters_of Try.func106 (by kernel_rfl) rfl) 107 #[.pointer (some ⟨W.heap.size, 0, none⟩)] trivial (enters_of Try.func107 (by kernel_rfl) rfl) _ _ (by rw [Pl.toD_size]; unfold maxLen; omega) (by rw [Pl.toD_size]; omega) _ hseq).mono ?_
  rintro e w' ⟨v, ss, rfl, hS, hrow, -, hb⟩
  have e1 : ss.mergeSort (fun x y => decide (x ≤ y)) = l.map fun p => p.1.data.toList := by
    have h1 := mergeSort_of_perm hS
    rw [strKeys_toD] at h1
    refine h1.trans (List.mergeSort_of_pairwise ?_)
    rw [List.pairwise_map]
    refine hris.imp (fun h => ?_)
    simp only [leB, decide_eq_true_eq]
    exact List.le_of_lt (bytesBefore_lt h)
  have e2 : ss.length = l.length := by rw [hS.length_eq, strKeys_toD, List.length_map]
  have e3 : (l.map fun p => p.1.data.toList).map encStr = (Pl.namesOf l).map Value.string := by
    unfold Pl.namesOf
    rw [List.map_map, List.map_map]
    refine List.map_congr_left (fun p _ => ?_)
    simp [encStr]
  rw [e1, e2] at hrow
  have hrow2 := hrow
  rw [show ∀ (ρ : Ren), ρ = laySorted_ren → ρ.t 26 = 9 from fun ρ h => by rw [h]; rfl] at hrow2
  · rw [e3] at hrow2
    refine ⟨v, rfl, ?_, ((Below.refl _ _).alloc (Nat.le_refl _) _).trans (hb.mono (by simp))⟩
    refine ⟨hrow2.1, hrow2.2.imp id ?_⟩
    rintro ⟨g, cap, cur, q1, q2, q3⟩
    exact ⟨g, cap, cur, q1, by simp at q2; omega, q3⟩
  · rfl

def Pl.Fs.namesE (x : Pl.Fs) (s : Pl.Dv) : List ByteArray := if x.dead s = true then [] else Pl.namesOf x.hand
set_option maxRecDepth 100000 in
set_option maxHeartbeats 1000000 in
theorem names_any (h : FsAt B f d x fp W) (hd : DevAt Bd d s fpd W) (hl : x.hand.length ≤ 1073741824) :
    Calls Try.prog 46 #[.pointer (some ⟨f, 0, none⟩)] W fun e w' => ∃ v, e = .returned v ∧ w'.ownsRow W.heap.size 9 1 v (x.namesE s).length ((x.namesE s).map Value.string) ∧ Below W.heap.size W w' := by
  obtain ⟨E, hE⟩ : ∃ E, E = x.namesE s := ⟨_, rfl⟩
  rw [← hE]
  obtain ⟨m, vf, rp, ho, rfl⟩ := id h
  cases hdd : x.dead s with
  | true =>
    have PD := Lib.hid (dead_is hdd h hd)
    obtain rfl : E = [] := by rw [hE]; unfold Pl.Fs.namesE; rw [if_pos hdd]
    clear hE hdd
    go_enter Try.func46, Try.ntmps46
    go_wp2_with fail
    refine PD.out.mono ?_
    rintro e w1 ⟨rfl, n, e1⟩
    have hb1 : Below W.heap.size W w1 := e1 ▸ below_drewN (Below.refl _ _) n
    clear e1
    go_wp2
    go_ret
    exact ⟨_, rfl, World.ownsRow_nil _ _ _ _, hb1⟩
  | false =>
    have PD := Lib.hid (dead_is hdd h hd)
    obtain rfl : E = Pl.namesOf x.hand := by rw [hE]; unfold Pl.Fs.namesE; rw [if_neg (by rw [hdd]; exact Bool.false_ne_true)]
    clear hE hdd
    go_enter Try.func46, Try.ntmps46
    go_wp2_with fail
    refine PD.out.mono ?_
    rintro e w1 ⟨rfl, n, e1⟩
    have ho1 := ho.keep (keep_drewN e1 _)
    have hb1 : Below W.heap.size W w1 := e1 ▸ below_drewN (Below.refl _ _) n
    clear e1 PD
    obtain ⟨c0, c1, c2, c3, c4, c5⟩ := ho1.cells
    have PK := Lib.hid (callsIn_wide.1 (mapsKeys_any (some m) w1))
    have PS := Lib.hid (callsIn_wide.1 (sortedKeys_any ho1.hand hl))
    go_wp2_with (first
      | (go_at_call 85; refine PK.out.mono ?_; rintro e w' ⟨rfl, rfl⟩)
      | (go_at_call 84; refine PS.out.mono ?_; rintro e w2 ⟨v, rfl, hr, hb2⟩))
    go_ret
    refine ⟨v, rfl, ?_, hb1.trans (hb2.mono hb1.size)⟩
    have e1 : (Pl.namesOf x.hand).length = x.hand.length := by simp [Pl.namesOf]
    rw [e1]
    refine ⟨hr.1, hr.2.imp id ?_⟩
    rintro ⟨g, cap, cur, q1, q2, q3⟩
    exact ⟨g, cap, cur, q1, Nat.le_trans hb1.size q2, q3⟩
end Go.Proofs.Ytndekdgpibipnaa
