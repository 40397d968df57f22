
/- The kit's contracts on the sorted keys of a map, laid at this program (written by the kit's tools). Condition: none. -/
import Derived.Shelf.SlGeneric
import Derived.Shelf.SlIter.Nil
import Derived.Shelf.SortM.Plain
import Derived.Shelf.SortM.SortNone
import Derived.Test.YtogblcdefbnbeaaGreatQGu
import Derived.Test.YtogblcdefbnbeaaGreatQGx
import Derived.Maps.Ext
import Derived.Outline
set_option maxRecDepth 100000
namespace Go.Proofs.YtogblcdefbnbeaaGreat
section
open Go.Shelf Go.Proofs
def layKeys_ren : Go.Shelf.Ren := ⟨fun | 7 => 67 | 10 => 96 | n => n, fun | 23 => 84 | 26 => 9 | 3 => 104 | 28 => 114 | 0 => 0 | 27 => 113 | 33 => 120 | 4 => 4 | n => n, fun | n => n⟩
theorem layKeys : Go.Proofs.SlLaysZ.n7 Tryz.prog layKeys_ren := {
 mixed := by kernel_rfl
 f7 := ⟨Tryz.f67.name, by decide, Tryz.func67.trans (congrArg some (by kernel_rfl))⟩
 f10 := ⟨Tryz.f96.name, by decide, Tryz.func96.trans (congrArg some (by kernel_rfl))⟩
 t0 := Tryz.underlying0
 a0 := Tryz.isAgg0
 z0 := Tryz.sizeOf0
 v0 := Tryz.zeroValue0
 t4 := Tryz.underlying4
 a4 := Tryz.isAgg4
 z4 := Tryz.sizeOf4
 v4 := Tryz.zeroValue4
 t23 := Tryz.underlying84
 a23 := Tryz.isAgg84
 z23 := Tryz.sizeOf84
 v23 := Tryz.zeroValue84
 t26 := Tryz.underlying9
 a26 := Tryz.isAgg9
 z26 := Tryz.sizeOf9
 v26 := Tryz.zeroValue9
 t27 := Tryz.underlying113
 a27 := Tryz.isAgg113
 z27 := Tryz.sizeOf113
 v27 := Tryz.zeroValue113
 t28 := Tryz.underlying114
 a28 := Tryz.isAgg114
 z28 := Tryz.sizeOf114
 v28 := Tryz.zeroValue114
 t33 := Tryz.underlying120
 a33 := Tryz.isAgg120
 z33 := Tryz.sizeOf120
 v33 := Tryz.zeroValue120 }
def laySorted_ren : Go.Shelf.Ren := ⟨fun | 6 => 66 | 8 => 94 | 9 => 95 | 11 => 124 | 13 => 126 | 12 => 125 | 23 => 140 | 24 => 141 | 14 => 131 | 15 => 132 | 16 => 133 | 17 => 134 | 18 => 135 | 19 => 136 | 20 => 137 | 21 => 138 | 22 => 139 | 25 => 142 | 26 => 143 | 27 => 144 | 28 => 145 | 29 => 146 | 30 => 147 | 31 => 148 | n => n, fun | 26 => 9 | 28 => 114 | 24 => 43 | 0 => 0 | 3 => 3 | 37 => 167 | 48 => 157 | 50 => 68 | 4 => 4 | 40 => 172 | 39 => 171 | 45 => 177 | 5 => 5 | 9 => 9 | 51 => 181 | 55 => 185 | 57 => 187 | 58 => 188 | 33 => 120 | n => n, fun | n => n⟩
theorem laySorted : Go.Proofs.SlLaysZ.n6 Tryz.prog laySorted_ren := {
 mixed := by kernel_rfl
 f6 := ⟨Tryz.f66.name, by decide, Tryz.func66.trans (congrArg some (by kernel_rfl))⟩
 f8 := ⟨Tryz.f94.name, by decide, Tryz.func94.trans (congrArg some (by kernel_rfl))⟩
 f11 := ⟨Tryz.f124.name, by decide, Tryz.func124.trans (congrArg some (by kernel_rfl))⟩
 t0 := Tryz.underlying0
 a0 := Tryz.isAgg0
 z0 := Tryz.sizeOf0
 v0 := Tryz.zeroValue0
 t24 := Tryz.underlying43
 a24 := Tryz.isAgg43
 z24 := Tryz.sizeOf43
 v24 := Tryz.zeroValue43
 t26 := Tryz.underlying9
 a26 := Tryz.isAgg9
 z26 := Tryz.sizeOf9
 v26 := Tryz.zeroValue9
 t28 := Tryz.underlying114
 a28 := Tryz.isAgg114
 z28 := Tryz.sizeOf114
 v28 := Tryz.zeroValue114
 i26 := by kernel_rfl }
def laySort_ren : Go.Shelf.Ren := ⟨fun | 6 => 95 | 8 => 126 | 9 => 125 | 19 => 140 | 20 => 141 | 21 => 131 | 22 => 132 | 23 => 133 | 24 => 134 | 25 => 135 | 26 => 136 | 27 => 137 | 28 => 138 | 29 => 139 | 36 => 142 | 31 => 143 | 32 => 144 | 37 => 145 | 38 => 146 | 39 => 147 | 41 => 148 | n => n, fun | 27 => 43 | 29 => 9 | 3 => 3 | 32 => 167 | 26 => 43 | 0 => 0 | 44 => 157 | 46 => 68 | 4 => 4 | 36 => 172 | 35 => 171 | 41 => 177 | 5 => 5 | 9 => 9 | 53 => 181 | 57 => 185 | 63 => 187 | 64 => 188 | n => n, fun | n => n⟩
theorem laySort : Go.Proofs.SlLaysM.n6 Tryz.prog laySort_ren := {
 mixed := by kernel_rfl
 f6 := ⟨Tryz.f95.name, by decide, Tryz.func95.trans (congrArg some (by kernel_rfl))⟩
 f8 := Tryz.func126.trans (congrArg some (by kernel_rfl))
 f9 := ⟨Tryz.f125.name, by decide, Tryz.func125.trans (congrArg some (by kernel_rfl))⟩
 f19 := Tryz.func140.trans (congrArg some (by kernel_rfl))
 f20 := Tryz.func141.trans (congrArg some (by kernel_rfl))
 f21 := ⟨Tryz.f131.name, by decide, Tryz.func131.trans (congrArg some (by kernel_rfl))⟩
 f22 := ⟨Tryz.f132.name, by decide, Tryz.func132.trans (congrArg some (by kernel_rfl))⟩
 f23 := ⟨Tryz.f133.name, by decide, Tryz.func133.trans (congrArg some (by kernel_rfl))⟩
 f24 := ⟨Tryz.f134.name, by decide, Tryz.func134.trans (congrArg some (by kernel_rfl))⟩
 f25 := ⟨Tryz.f135.name, by decide, Tryz.func135.trans (congrArg some (by kernel_rfl))⟩
 f26 := ⟨Tryz.f136.name, by decide, Tryz.func136.trans (congrArg some (by kernel_rfl))⟩
 f27 := ⟨Tryz.f137.name, by decide, Tryz.func137.trans (congrArg some (by kernel_rfl))⟩
 f28 := ⟨Tryz.f138.name, by decide, Tryz.func138.trans (congrArg some (by kernel_rfl))⟩
 f29 := ⟨Tryz.f139.name, by decide, Tryz.func139.trans (congrArg some (by kernel_rfl))⟩
 f31 := Tryz.func143.trans (congrArg some (by kernel_rfl))
 f32 := Tryz.func144.trans (congrArg some (by kernel_rfl))
 f36 := ⟨Tryz.f142.name, by decide, Tryz.func142.trans (congrArg some (by kernel_rfl))⟩
 f37 := ⟨Tryz.f145.name, by decide, Tryz.func145.trans (congrArg some (by kernel_rfl))⟩
 f38 := ⟨Tryz.f146.name, by decide, Tryz.func146.trans (congrArg some (by kernel_rfl))⟩
 f39 := ⟨Tryz.f147.name, by decide, Tryz.func147.trans (congrArg some (by kernel_rfl))⟩
 f41 := ⟨Tryz.f148.name, by decide, Tryz.func148.trans (congrArg some (by kernel_rfl))⟩
 t0 := Tryz.underlying0
 a0 := Tryz.isAgg0
 z0 := Tryz.sizeOf0
 v0 := Tryz.zeroValue0
 t3 := Tryz.underlying3
 a3 := Tryz.isAgg3
 z3 := Tryz.sizeOf3
 v3 := Tryz.zeroValue3
 t4 := Tryz.underlying4
 a4 := Tryz.isAgg4
 z4 := Tryz.sizeOf4
 v4 := Tryz.zeroValue4
 t5 := Tryz.underlying5
 a5 := Tryz.isAgg5
 z5 := Tryz.sizeOf5
 v5 := Tryz.zeroValue5
 t9 := Tryz.underlying9
 a9 := Tryz.isAgg9
 z9 := Tryz.sizeOf9
 v9 := Tryz.zeroValue9
 t26 := Tryz.underlying43
 a26 := Tryz.isAgg43
 z26 := Tryz.sizeOf43
 v26 := Tryz.zeroValue43
 t27 := Tryz.underlying43
 a27 := Tryz.isAgg43
 z27 := Tryz.sizeOf43
 v27 := Tryz.zeroValue43
 t29 := Tryz.underlying9
 a29 := Tryz.isAgg9
 z29 := Tryz.sizeOf9
 v29 := Tryz.zeroValue9
 t32 := Tryz.underlying167
 a32 := Tryz.isAgg167
 z32 := Tryz.sizeOf167
 v32 := Tryz.zeroValue167
 t35 := Tryz.underlying171
 a35 := Tryz.isAgg171
 z35 := Tryz.sizeOf171
 v35 := Tryz.zeroValue171
 t36 := Tryz.underlying172
 a36 := Tryz.isAgg172
 z36 := Tryz.sizeOf172
 v36 := Tryz.zeroValue172
 t41 := Tryz.underlying177
 a41 := Tryz.isAgg177
 z41 := Tryz.sizeOf177
 v41 := Tryz.zeroValue177
 t44 := Tryz.underlying157
 a44 := Tryz.isAgg157
 z44 := Tryz.sizeOf157
 v44 := Tryz.zeroValue157
 t46 := Tryz.underlying68
 a46 := Tryz.isAgg68
 z46 := Tryz.sizeOf68
 v46 := Tryz.zeroValue68
 t53 := Tryz.underlying181
 a53 := Tryz.isAgg181
 z53 := Tryz.sizeOf181
 v53 := Tryz.zeroValue181
 t57 := Tryz.underlying185
 a57 := Tryz.isAgg185
 z57 := Tryz.sizeOf185
 v57 := Tryz.zeroValue185
 t63 := Tryz.underlying187
 a63 := Tryz.isAgg187
 z63 := Tryz.sizeOf187
 v63 := Tryz.zeroValue187
 t64 := Tryz.underlying188
 a64 := Tryz.isAgg188
 z64 := Tryz.sizeOf188
 v64 := Tryz.zeroValue188 }
end
section
open Go.RowKit Go.Maps Go.Sort Go.Shelf
theorem bytesBefore_lt : ∀ {a b : List UInt8}, bytesBefore a b = true → a < b
 | [], [], h => by simp [bytesBefore] at h
 | [], _ :: _, _ => List.Lex.nil
 | _ :: _, [], h => by simp [bytesBefore] at h
 | a :: r, b :: s, h => by
  unfold bytesBefore at h
  simp only [Bool.or_eq_true, decide_eq_true_eq, Bool.and_eq_true, beq_iff_eq] at h
  rcases h with h | ⟨rfl, h⟩
  ·exact List.Lex.rel h
  ·exact List.Lex.cons (bytesBefore_lt h)
variable {B Bd f d m : Nat} {vf : Value} {x : Pl.Fs} {s : Pl.Dv} {rp fp fpd : Nat → Prop} {W W' : World}
theorem HandAt.rising {l : List (ByteArray × Pl.HF)} (h : HandAt rp W m l) : l.Pairwise (fun p q => bytesBefore p.1.data.toList q.1.data.toList = true) := by
 obtain ⟨es, e, hp, _⟩ := World.ownsMap.canon h str_law
 unfold Pl.toD at e
 injection e with e
 rw [← e, List.pairwise_map] at hp
 exact hp
def Pl.namesOf (l : List (ByteArray × Pl.HF)) : List ByteArray := l.map (·.1)
theorem strKeys_toD (l : List (ByteArray × Pl.HF)) : strKeys (Pl.toD l) = l.map fun p => p.1.data.toList := by
 unfold Pl.toD strKeys
 simp only [List.map_map]
 rfl
theorem sorts_any (m : Nat) : AnyZ.SortsIn Tryz.prog laySorted_ren Fence.wide m :=
 ⟨fun blk off cap ss W hH hblk hsz => callsIn_wide.2 (AnyM.slices_Sort_string laySort blk off cap ss W hH hblk hsz), fun p cap W => callsIn_wide.2 (AnyM.slices_Sort_string_none laySort p cap W)⟩
theorem mapsKeys_any (mb : Option Nat) (W : World) : CallsIn Fence.wide 5 Tryz.prog 67 #[.map mb] W fun e w' => e = .returned (.func (.func 96) #[] #[.pointer (some ⟨W.heap.size, 0, none⟩)]) ∧ w' = W.alloc (.cells #[.map mb] 84) :=
 AnyZ.keys_in layKeys Fence.wide 5 trivial rfl mb W
set_option maxHeartbeats 1000000 in
theorem sortedKeys_any {l : List (ByteArray × Pl.HF)} (hown : HandAt rp W m l) (hl : l.length ≤ 1073741824) :
  CallsIn Fence.wide 5 Tryz.prog 66 #[.func (.func 96) #[] #[.pointer (some ⟨W.heap.size, 0, none⟩)]] (W.alloc (.cells #[.map (some m)] 84)) fun e w' =>
   ∃ v, e = .returned v ∧ w'.ownsRow W.heap.size 9 1 v l.length ((Pl.namesOf l).map Value.string) ∧ Below W.heap.size W w' := by
 have hbl := World.ownsMap.lt hown
 have hris := hown.rising
 have hseq : SeqGives Fence.wide 2 Tryz.prog 96 #[.pointer (some ⟨W.heap.size, 0, none⟩)] encStr (fun ss => ss.Perm (strKeys (Pl.toD l))) (Maps.size (Pl.toD l)) (W.alloc (.cells #[.map (some m)] 84)) :=
  AnyZ.keys_gives (ρ := layKeys_ren) { layKeys with } Fence.wide _ trivial rfl (by omega) W.heap.size m l.length (Pl.toD l) _ (by simp) (by simp) (by
   obtain ⟨es, clock, hb, Ft, hs, hD⟩ := hown
   exact ⟨es, clock, (Below.heap_alloc _ _ m hbl).trans hb, Ft, hs, hD⟩)
 refine (AnyZ.sorted_in laySorted Fence.wide 5 trivial trivial trivial trivial rfl (by omega) (sorts_any _) (enters_of Tryz.func95 (by kernel_rfl) rfl) 96 #[.pointer (some ⟨W.heap.size, 0, none⟩)] trivial (enters_of Tryz.func96 (by kernel_rfl) rfl) _ _ (by rw [Pl.toD_size]; unfold maxLen; omega) (by rw [Pl.toD_size]; omega) _ hseq).mono ?_
 rintro e w' ⟨v, ss, rfl, hS, hrow, -, hb⟩
 have e1 : ss.mergeSort (fun x y => decide (x ≤ y)) = l.map fun p => p.1.data.toList := by
  have h1 := mergeSort_of_perm hS
  rw [strKeys_toD] at h1
  refine h1.trans (List.mergeSort_of_pairwise ?_)
  rw [List.pairwise_map]
  refine hris.imp (fun h => ?_)
  simp only [leB, decide_eq_true_eq]
  exact List.le_of_lt (bytesBefore_lt h)
 have e2 : ss.length = l.length := by rw [hS.length_eq, strKeys_toD, List.length_map]
 have e3 : (l.map fun p => p.1.data.toList).map encStr = (Pl.namesOf l).map Value.string := by
  unfold Pl.namesOf
  rw [List.map_map, List.map_map]
  refine List.map_congr_left (fun p _ => ?_)
  simp [encStr]
 rw [e1, e2] at hrow
 have hrow2 := hrow
 rw [show ∀ (ρ : Ren), ρ = laySorted_ren → ρ.t 26 = 9 from fun ρ h => by rw [h]; rfl] at hrow2
 ·rw [e3] at hrow2
  refine ⟨v, rfl, ?_, ((Below.refl _ _).alloc (Nat.le_refl _) _).trans (hb.mono (by simp))⟩
  refine ⟨hrow2.1, hrow2.2.imp id ?_⟩
  rintro ⟨g, cap, cur, q1, q2, q3⟩
  exact ⟨g, cap, cur, q1, by simp at q2; omega, q3⟩
 ·rfl
def Pl.Fs.namesE (x : Pl.Fs) (s : Pl.Dv) : List ByteArray := if x.dead s = true then [] else Pl.namesOf x.hand
set_option maxHeartbeats 1000000 in
theorem names_any (h : FsAt B f d x fp W) (hd : DevAt Bd d s fpd W) (hl : x.hand.length ≤ 1073741824) :
  Calls Tryz.prog 24 #[.pointer (some ⟨f, 0, none⟩)] W fun e w' => ∃ v, e = .returned v ∧ w'.ownsRow W.heap.size 9 1 v (x.namesE s).length ((x.namesE s).map Value.string) ∧ Below W.heap.size W w' := by
 obtain ⟨E, hE⟩ : ∃ E, E = x.namesE s := ⟨_, rfl⟩
 rw [← hE]
 obtain ⟨m, vf, rp, ho, rfl⟩ := id h
 cases hdd : x.dead s with
 | true =>
  have PD := Lib.hid (dead_is hdd h hd)
  obtain rfl : E = [] := by rw [hE]; unfold Pl.Fs.namesE; rw [if_pos hdd]
  clear hE hdd
  go_enter Tryz.func24, Tryz.ntmps24
  go_wp2_with fail
  refine PD.out.mono ?_
  rintro e w1 ⟨rfl, n, e1⟩
  have hb1 : Below W.heap.size W w1 := e1 ▸ below_drewN (Below.refl _ _) n
  clear e1
  go_wp2
  go_ret
  exact ⟨_, rfl, World.ownsRow_nil _ _ _ _, hb1⟩
 | false =>
  have PD := Lib.hid (dead_is hdd h hd)
  obtain rfl : E = Pl.namesOf x.hand := by rw [hE]; unfold Pl.Fs.namesE; rw [if_neg (by rw [hdd]; exact Bool.false_ne_true)]
  clear hE hdd
  go_enter Tryz.func24, Tryz.ntmps24
  go_wp2_with fail
  refine PD.out.mono ?_
  rintro e w1 ⟨rfl, n, e1⟩
  have ho1 := ho.keep (keep_drewN e1 _)
  have hb1 : Below W.heap.size W w1 := e1 ▸ below_drewN (Below.refl _ _) n
  clear e1 PD
  obtain ⟨c0, c1, c2, c3, c4, c5⟩ := ho1.cells
  have PK := Lib.hid (callsIn_wide.1 (mapsKeys_any (some m) w1))
  have PS := Lib.hid (callsIn_wide.1 (sortedKeys_any ho1.hand hl))
  go_wp2_with (first
   | (go_at_call 67; refine PK.out.mono ?_; rintro e w' ⟨rfl, rfl⟩)
   | (go_at_call 66; refine PS.out.mono ?_; rintro e w2 ⟨v, rfl, hr, hb2⟩))
  go_ret
  refine ⟨v, rfl, ?_, hb1.trans (hb2.mono hb1.size)⟩
  have e1 : (Pl.namesOf x.hand).length = x.hand.length := by simp [Pl.namesOf]
  rw [e1]
  refine ⟨hr.1, hr.2.imp id ?_⟩
  rintro ⟨g, cap, cur, q1, q2, q3⟩
  exact ⟨g, cap, cur, q1, Nat.le_trans hb1.size q2, q3⟩
end
end Go.Proofs.YtogblcdefbnbeaaGreat
