
/- Walk: the document's frames of bytes. Condition: bytes that are not many. -/
import Derived.Test.YtlchkpmmemdjcaaWEnd
import Derived.Test.YtlchkpmmemdjcaaWRefTakeFrame
namespace Go.Proofs.Ytlchkpmmemdjcaa
open Go.RowKit

/-- the cells of frames and their places -/
def acells : List Pl.AtF → List Value
  | [] => []
  | x :: l => .int .i64 (x.1 : Int) :: .int .u8 (x.2.1.toNat : Int) :: .string ⟨x.2.2.toArray⟩ :: acells l
theorem acells_append : ∀ l r : List Pl.AtF, acells (l ++ r) = acells l ++ acells r
  | [], _ => rfl
  | x :: l, r => by simp [acells, acells_append l r]
theorem acells_one (x : Pl.AtF) : acells [x] = [.int .i64 (x.1 : Int), .int .u8 (x.2.1.toNat : Int), .string ⟨x.2.2.toArray⟩] := rfl
theorem acells_get : ∀ (l : List Pl.AtF) (i : Nat) (h : i < l.length), (acells l)[i * 3]? = some (.int .i64 (l[i].1 : Int)) ∧ (acells l)[i * 3 + 1]? = some (.int .u8 (l[i].2.1.toNat : Int)) ∧ (acells l)[i * 3 + 2]? = some (.string ⟨l[i].2.2.toArray⟩)
  | x :: l, 0, _ => ⟨rfl, rfl, rfl⟩
  | x :: l, i + 1, h => by
    have := acells_get l i (by simpa using h)
    rw [show (i + 1) * 3 = i * 3 + 1 + 1 + 1 from by omega]
    simpa [acells] using this
theorem info_at : (Try.prog.info? 64).map (fun i => (i.zero, i.size, i.bytes)) = some (some (.agg #[.int .i64 0, .int .u8 0, .string .empty]), 3, 32) := by kernel_rfl

set_option maxRecDepth 100000 in
set_option maxHeartbeats 2000000 in
theorem refAll_any (s : ByteArray) (w : World) (hs : s.size ≤ 1048575) :
    Calls Try.prog 48 #[.string s] w fun e w' => ∃ v, e = .returned v ∧ ∃ k u, Pl.Ends s.data.toList k ∧ v = .tuple #[u, .int .i64 (Pl.pos s.data.toList k : Nat)] ∧ Own w.heap.size 64 3 u k (acells (Pl.frames s.data.toList k)) w w' := by
  have hsz := Pl.size_data s
  go_enter Try.func48, Try.ntmps48
  go_wp2
  go_loopw [4, 5, 6, 7, 8] (fun o i _ _ _ wr => ∃ k : Nat, Pl.Run s.data.toList k ∧ i = .int .i64 (Pl.pos s.data.toList k : Nat) ∧ Own w.heap.size 64 3 o k (acells (Pl.frames s.data.toList k)) w wr)
    (fun _ i _ _ _ _ => s.size + 1 - (intOf i).toNat)
  case atStart => exact ⟨0, Pl.Run.zero _, rfl, Own.nil (Below.refl _ _) (Nat.le_refl _)⟩
  case round =>
    obtain ⟨k, hk, rfl, hown⟩ := hrel
    obtain ⟨hp1, hp2⟩ := Pl.pos_le hk
    by_cases hlt : Pl.pos s.data.toList k < s.size
    · have hfs := Pl.frames_succ s.data.toList k
      have hokd : Pl.okF s.data.toList k ↔ (Pl.takeFrame (s.data.toList.drop (Pl.pos s.data.toList k))).2.2 = 0 := Iff.rfl
      have hsz2 := fun h => Pl.take_size (l := s.data.toList.drop (Pl.pos s.data.toList k)) h
      have hfa : Pl.frameAt s.data.toList k = (Pl.pos s.data.toList k, (Pl.takeFrame (s.data.toList.drop (Pl.pos s.data.toList k))).1) := rfl
      have hps : Hid (Pl.pos s.data.toList (k + 1) = Pl.pos s.data.toList k + (Pl.takeFrame (s.data.toList.drop (Pl.pos s.data.toList k))).2.1) := by show _ = _; rfl
      rw [hfa] at hfs
      have hfc := congrArg acells hfs
      rw [acells_append, acells_one] at hfc
      have P := Lib.hid (fun w => refTakeFrame_any (s.extract (Pl.pos s.data.toList k) s.size) w (by simp only [ByteArray.size_extract]; omega))
      rw [drop_bytes] at P
      rw [List.length_drop] at hsz2
      rw [hsz] at hp2 hsz2
      clear hfs hfa
      generalize Pl.takeFrame (s.data.toList.drop (Pl.pos s.data.toList k)) = t at *
      obtain ⟨⟨kd, ld⟩, m, e⟩ := t
      simp only at hokd hsz2 hfc
      generalize hpos : Pl.pos s.data.toList k = p at *
      replace hfc := Lib.hid hfc
      replace hpos := Lib.hid hpos
      go_wp2_with fail
      refine (P.out _).mono ?_
      rintro e1 w1 ⟨rfl, b1⟩
      unfold tupF
      have hown1 := (hown.beyond b1).alloc (.cells #[.int .u8 (kd.toNat : Int), .string ⟨ld.toArray⟩] 32)
      have ⟨f0, f1, fB⟩ := Fr.new w1 (kd.toNat : Int) ⟨ld.toArray⟩ 32
      by_cases he : e = 0
      · subst he
        obtain ⟨_, hm1, hm2⟩ := hsz2 rfl
        have hrun := hk.succ (hokd.2 rfl)
        clear hsz2 hokd hown b1 P
        go_wp2_with (at_builtin; go_must (refine wpList_app (by rfl) _ _ 57 (by rfl) w.heap.size 64 (.agg #[.int .i64 0, .int .u8 0, .string .empty]) 3 32 Try.underlying57 info_at rfl (by decide) _ k (acells (Pl.frames s.data.toList k)) w _ hown1 (by rfl) #[.int .i64 (p : Int), .int .u8 (kd.toNat : Int), .string ⟨ld.toArray⟩] 1 (by rw [World.size_alloc]; rfl) (by rfl) (by simp [Value.oneCell']) (by omega) (by omega) ?_; intro v' w2 hown2))
        go_roundw
        case rel => exact ⟨k + 1, hrun, by rw [hps.out]; go_num, by rw [hfc.out]; exact hown2⟩
        case measure => simp [intOf]; omega
      · have hnok : ¬ Pl.okF s.data.toList k := fun h => he (hokd.1 h)
        clear hsz2 hokd
        go_wp2_with fail
        go_ret2
        exact ⟨_, rfl, k, _, ⟨hk, hnok⟩, by rw [hpos.out]; rfl, hown1⟩
    · have hnok : ¬ Pl.okF s.data.toList k := Pl.end_pos (by omega)
      generalize hpos : Pl.pos s.data.toList k = p at *
      replace hpos := Lib.hid hpos
      go_wp2_with fail
      go_ret2
      exact ⟨_, rfl, k, _, ⟨hk, hnok⟩, by rw [hpos.out]; rfl, hown⟩
end Go.Proofs.Ytlchkpmmemdjcaa
