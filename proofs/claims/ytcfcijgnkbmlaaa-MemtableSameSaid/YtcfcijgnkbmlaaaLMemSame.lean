
/- Walk: the law MemtableSame returns true. Condition: rows that the form's reach lets. -/
import Derived.Test.YtcfcijgnkbmlaaaWGet6
import Derived.Test.YtcfcijgnkbmlaaaPlainTs
import Derived.Test.YtcfcijgnkbmlaaaWSame
import Derived.StillTailTactics
namespace Go.Proofs.Ytcfcijgnkbmlaaa
open Go.RowKit Go.Shelf

/-- the cells of acts -/
def acells : List MAct → List Value
  | [] => []
  | a :: l => .int .i64 a.kind :: .int .i64 a.n :: .string a.v.key :: .int .u64 (a.v.seq : Int) :: .bool a.v.del :: .string a.v.val :: acells l
theorem acells_append : ∀ l r : List MAct, acells (l ++ r) = acells l ++ acells r
  | [], _ => rfl
  | a :: l, r => by simp [acells, acells_append l r]
theorem acells_get : ∀ (l : List MAct) (i : Nat) (h : i < l.length), (acells l)[i * 6]? = some (.int .i64 l[i].kind) ∧ (acells l)[i * 6 + 1]? = some (.int .i64 l[i].n) ∧ (acells l)[i * 6 + 2]? = some (.string l[i].v.key) ∧ (acells l)[i * 6 + 3]? = some (.int .u64 (l[i].v.seq : Int)) ∧ (acells l)[i * 6 + 4]? = some (.bool l[i].v.del) ∧ (acells l)[i * 6 + 5]? = some (.string l[i].v.val)
  | a :: l, 0, _ => ⟨rfl, rfl, rfl, rfl, rfl, rfl⟩
  | a :: l, i + 1, h => by
    have := acells_get l i (by simpa using h)
    rw [show (i + 1) * 6 = i * 6 + 1 + 1 + 1 + 1 + 1 + 1 from by omega]
    simpa [acells] using this
theorem own_macts {W : World} {base : Nat} {v : Value} {l : List MAct} (h : W.ownsRow base 44 6 v l.length (acells l)) : ∃ g cap, v = .slice g l.length cap ∧ ∀ i (hi : i < l.length), ∃ b, g = some ⟨b, 0, none⟩ ∧ v.ownBlock = some b ∧ MActIn W b (i * 6) l[i] := by
  rcases own_at h with ⟨h0, rfl⟩ | ⟨g, cap, rfl, h1, h2, h3, h4, hc⟩
  · exact ⟨none, 0, by rw [h0], fun i hi => by omega⟩
  · refine ⟨_, cap, rfl, fun i hi => ⟨g, rfl, rfl, ?_⟩⟩
    have hp := acells_get l i hi
    exact ⟨(hc _ (by omega)).trans hp.1, (hc _ (by omega)).trans hp.2.1, (hc _ (by omega)).trans hp.2.2.1, (hc _ (by omega)).trans hp.2.2.2.1, (hc _ (by omega)).trans hp.2.2.2.2.1, (hc _ (by omega)).trans hp.2.2.2.2.2⟩
theorem info_mact : (Try.prog.info? 44).map (fun i => (i.zero, i.size, i.bytes)) = some (some (.agg #[.int .i64 0, .int .i64 0, .string .empty, .int .u64 0, .bool false, .string .empty]), 6, 64) := by kernel_rfl

/-- in W: a table that is filled, one that is empty, and the list of what was put -/
structure Two (w : World) (T1 T2 : Nat) (xs : List Ver) (hs bs : List Nat) (put : List MAct) (pv : Value) (W : World) : Prop where
  a : TblAt W T1 xs hs bs
  b : TblAt W T2 [] [] []
  mine : ∀ q, SkB T1 bs q → q = T1 ∨ T2 < q
  row : W.ownsRow (T2 + 1) 44 6 pv put.length (acells put)
  free : ∀ g, pv.ownBlock = some g → ¬ SkB T1 bs g
  old : Below w.heap.size w W
theorem Two.below {w : World} {T1 T2 : Nat} {xs : List Ver} {hs bs : List Nat} {put : List MAct} {pv : Value} {W W' : World} (h : Two w T1 T2 xs hs bs put pv W) (hb : Below W.heap.size W W') : Two w T1 T2 xs hs bs put pv W' :=
  ⟨h.a.below hb, h.b.below hb, h.mine, (Keep.of_below (fp := fun _ => True) hb (fun _ _ h => h)).ownsRow h.row (fun _ _ => trivial), h.free, h.old.trans (hb.mono h.old.size)⟩
theorem Two.after {w : World} {T1 T2 : Nat} {xs xs' : List Ver} {hs bs hs' bs' : List Nat} {put : List MAct} {pv : Value} {W W' : World} (h : Two w T1 T2 xs hs bs put pv W) (h1 : w.heap.size ≤ T1) (h2 : T1 < T2) (hk : Keep (fun q => ¬ SkB T1 bs q) W W') (ht : TblAt W' T1 xs' hs' bs') (hm : ∀ q, SkB T1 bs' q → SkB T1 bs q ∨ W.heap.size ≤ q) : Two w T1 T2 xs' hs' bs' put pv W' := by
  have hT2 := h.b.sk.lt (.inl rfl)
  refine ⟨ht, h.b.keep hk (fun q hq h3 => ?_), fun q hq => ?_, hk.ownsRow h.row h.free, fun g hg h3 => ?_, hk.below h.old (Nat.le_refl _) (fun q hq h3 => ?_)⟩
  · rcases hq with rfl | hq
    · rcases h.mine _ h3 with h4 | h4 <;> omega
    · cases hq
  · rcases hm q hq with h3 | h3
    · exact h.mine q h3
    · right; omega
  · rcases hm g h3 with h4 | h4
    · exact h.free g hg h4
    · have := (h.row.lt g hg).2; omega
  · rcases h.mine q h3 with h4 | h4 <;> omega

theorem Two.append {w : World} {T1 T2 : Nat} {xs : List Ver} {hs bs : List Nat} {put : List MAct} {pv : Value} {W w1 : World} {a : MAct} {g cap : Nat} {o : Obj} (h : Two w T1 T2 xs hs bs put pv W) (h1 : w.heap.size ≤ T1) (h2 : T1 < T2)
    (hown : w1.ownsRow (T2 + 1) 44 6 (.slice (some ⟨g, 0, none⟩) (put.length + 1) cap) (put.length + 1) (acells put ++ (#[.int .i64 a.kind, .int .i64 a.n, .string a.v.key, .int .u64 (a.v.seq : Int), .bool a.v.del, .string a.v.val] : Array Value).toList))
    (hgrow : (W.alloc o).grownBy w1 pv.ownBlock) (hat : pv.ownBlock = some g ∨ W.heap.size ≤ g) : Two w T1 T2 xs hs bs (put ++ [a]) (.slice (some ⟨g, 0, none⟩) (put.length + 1) cap) w1 := by
  have hT2 := h.b.sk.lt (.inl rfl)
  have hk : Keep (fun q => pv.ownBlock ≠ some q) W w1 := ((Keep.refl _ W).alloc o).trans (fp' := fun q => pv.ownBlock ≠ some q) (Keep.of_grownBy hgrow (fun k e _ hf => hf e)) (fun _ h _ => h)
  refine ⟨h.a.keep hk (fun q hq e => h.free q e hq), h.b.keep hk (fun q hq e => ?_), h.mine, ?_, fun g' hg' => ?_, hk.below h.old (Nat.le_refl _) (fun q hq e => ?_)⟩
  · rcases hq with rfl | hq
    · have := (h.row.lt _ e).1; omega
    · cases hq
  · have e1 : acells (put ++ [a]) = acells put ++ (#[.int .i64 a.kind, .int .i64 a.n, .string a.v.key, .int .u64 (a.v.seq : Int), .bool a.v.del, .string a.v.val] : Array Value).toList := by rw [acells_append]; rfl
    rw [List.length_append, e1]; exact hown
  · have e : g = g' := by simpa [Value.ownBlock] using hg'
    subst e
    rcases hat with hat | hat
    · exact h.free _ hat
    · intro h3; have := h.a.sk.lt h3; omega
  · have := (h.row.lt _ e).1; omega

set_option maxRecDepth 100000 in
set_option maxHeartbeats 1600000 in
theorem memtableSame_any (v : Value) (l : List MAct) (key : ByteArray) (sq : Nat) (w : World) (hv : MActsAt w v l) (hl : l.length ≤ 2199023255551) (hn : ∀ x ∈ l, -9223372036854775808 ≤ x.n ∧ x.n ≤ 9223372036854775807) :
    Calls Try.prog 9 #[v, .string key, .int .u64 (sq : Int)] w fun e w' => e = .returned (.bool true) ∧ Below w.heap.size w w' := by
  obtain ⟨ao, cap, rfl, c1, c2, hrow⟩ := hv
  have P0 := Lib.hid (fun w => tbl_new w)
  go_enter Try.func9, Try.ntmps9
  go_wp2_with fail
  refine (P0.out _).mono ?_
  rintro e W1 ⟨rfl, ht1, hb1⟩
  go_wp2_with fail
  refine (P0.out _).mono ?_
  rintro e W2 ⟨rfl, ht2, hb2⟩
  have hT12 := ht1.sk.lt (.inl rfl)
  have hT2 := ht2.sk.lt (.inl rfl)
  have hTw0 : Two w w.heap.size W1.heap.size [] [] [] [] (.slice none 0 0) W2 := ⟨ht1.below hb2, ht2, fun q hq => hq.elim .inl (fun h => (by cases h)), World.ownsRow_nil _ _ _ _, fun g hg => (by cases hg), hb1.trans (hb2.mono hb1.size)⟩
  clear P0 ht1 ht2 hb1 hb2
  generalize hTe : w.heap.size = T1 at hTw0 hT12 ⊢
  generalize W1.heap.size = T2 at *
  replace hTe := Lib.hid hTe
  go_wp2
  go_loopw [9, 10, 11, 12] (fun pv i _ _ W' => ∃ (k : Nat) (xs : List Ver) (hs bs : List Nat) (put : List MAct), k ≤ l.length ∧ i = .int .i64 k ∧ Two w T1 T2 xs hs bs put pv W' ∧ xs.length ≤ k ∧ Hid (Pl.Put put xs)) (fun _ i _ _ _ => l.length - (intOf i).toNat)
  case atStart => exact ⟨0, [], [], [], [], by omega, rfl, hTw0, Nat.le_refl _, Lib.hid .nil⟩
  case round =>
    obtain ⟨k, xs, hs, bs, put, hk, rfl, hTw, hxk, hput⟩ := hrel
    by_cases h1 : k < l.length
    · obtain ⟨b, off, rfl, hbl, hc⟩ := hrow (by omega)
      have hact := (hc k h1).kept (hTw.old.block b hbl)
      obtain ⟨x0, x1, x2, x3, x4, x5⟩ := hact
      have hbn := hn _ (List.getElem_mem h1)
      have hwr : IntKind.i64.wrap (k : Int) = (k : Int) := IntWalk.i64_in _ (by omega)
      have hge : (0 : Int) ≤ (k : Int) := by omega
      have hge2 : ¬ ((k : Int) < 0) := by omega
      have hi1 : (k : Int) < (l.length : Int) := by omega
      have P := Lib.hid (tbl_add T1 xs hs bs l[k].v l[k].n wr.drew (hTw.a.below (Below.refl _ _).drew) (by omega))
      have hgood := hTw.a.good
      have hlen := (hgood.add l[k].v l[k].n).2
      have hcode := Pl.addT_codes xs hs l[k].v l[k].n
      have hbad : Hid ((Pl.mayM l[k].v.key l[k].v.seq l[k].v.del l[k].v.val = false ∨ l[k].n < 1 ∨ 8 < l[k].n) → (Pl.addT xs hs l[k].v l[k].n).1 = xs) := Lib.hid (fun h => Pl.addT_bad h)
      have hpadd : Hid ((Pl.addT xs hs l[k].v l[k].n).2.2 = 0 → Pl.Put (put ++ [l[k]]) (Pl.addT xs hs l[k].v l[k].n).1) := Lib.hid (fun h => hput.out.add hgood.ris l[k] hs h)
      have PM := Lib.hid (fun W => refMayM_any l[k].v.key l[k].v.seq l[k].v.del l[k].v.val W)
      have hca := hc k h1
      generalize l[k] = a at *
      clear hc
      go_wp2
      go_still_tail 11, (by kernel_rfl)
      change wpList _ _ _ _ _ wr.drew
      go_wp2_with fail
      refine P.out.mono ?_
      rintro e w1 ⟨rfl, ⟨bs', ht, hm⟩, hkk⟩
      have hTw1 := (hTw.below (Below.refl _ _).drew).after (by have := hTe.out; omega) hT12 hkk ht hm
      obtain ⟨y0, y1, y2, y3, y4, y5⟩ := hca.kept (hTw1.old.block b hbl)
      generalize Pl.addT xs hs a.v a.n = ad at *
      obtain ⟨xs', hs', cc⟩ := ad
      simp only at hlen hcode hbad hpadd hTw1
      clear P ht hm hkk hTw x0 x1 x2 x3 x4 x5
      go_wp2_with fail
      refine (PM.out _).mono ?_
      rintro e w2 ⟨rfl, hb2⟩
      have hTw2 := hTw1.below hb2
      obtain ⟨z0, z1, z2, z3, z4, z5⟩ := hca.kept (hTw2.old.block b hbl)
      clear PM hTw1 hb2 y0 y1 y2 y3 y4 y5
      rcases hcode with ⟨hbd, rfl⟩ | ⟨hbd, hcc⟩
      · have hxe := hbad.out hbd
        subst hxe
        cases hmay : Pl.mayM a.v.key a.v.seq a.v.del a.v.val
        · go_wp2
          go_roundw
          case rel => exact ⟨k + 1, _, hs', bs', put, by omega, by go_num, hTw2, by omega, hput⟩
          case measure => simp [intOf]; omega
        · have hbd2 : a.n < 1 ∨ 8 < a.n := by
            rcases hbd with h | h
            · rw [hmay] at h; cases h
            · exact h
          rcases hbd2 with hbd2 | hbd2
          all_goals
            go_wp2
            go_roundw
            case rel => exact ⟨k + 1, _, hs', bs', put, by omega, by go_num, hTw2, by omega, hput⟩
            case measure => simp [intOf]; omega
      · have hmay : Pl.mayM a.v.key a.v.seq a.v.del a.v.val = true := by
          cases hm : Pl.mayM a.v.key a.v.seq a.v.del a.v.val
          · exact absurd (.inl hm) hbd
          · rfl
        have hn1 : ¬ a.n < 1 := fun h => hbd (.inr (.inl h))
        have hn2 : ¬ 8 < a.n := fun h => hbd (.inr (.inr h))
        rw [hmay]
        rcases hcc with rfl | ⟨rfl, hxe⟩
        · have hput2 := Lib.hid (hpadd.out rfl)
          have hpl := hput.out.len
          have hlk : (put.length + 1) * 64 ≤ 140737488355328 := by omega
          have hB3 : T2 + 1 ≤ w2.heap.size := by have := hTw2.b.sk.lt (.inl rfl); omega
          replace hpl := Lib.hid hpl
          have hPut : Hid (∀ (w1 : World) (g cap : Nat), w1.ownsRow (T2 + 1) 44 6 (.slice (some ⟨g, 0, none⟩) (put.length + 1) cap) (put.length + 1) (acells put ++ (#[.int .i64 a.kind, .int .i64 a.n, .string a.v.key, .int .u64 (a.v.seq : Int), .bool a.v.del, .string a.v.val] : Array Value).toList) → (w2.alloc (.cells #[.int .i64 a.kind, .int .i64 a.n, .string a.v.key, .int .u64 (a.v.seq : Int), .bool a.v.del, .string a.v.val] 44)).grownBy w1 u9.ownBlock → (u9.ownBlock = some g ∨ w2.heap.size ≤ g) → Two w T1 T2 xs' hs' bs' (put ++ [a]) (.slice (some ⟨g, 0, none⟩) (put.length + 1) cap) w1) := Lib.hid (fun w1 g cap h1 h2 h3 => hTw2.append (by have := hTe.out; omega) hT12 h1 h2 h3)
          have hrw := hTw2.row
          go_wp2_with (at_builtin; go_must (refine wpList_app1 (by rfl) _ _ 38 (by rfl) (T2 + 1) 44 (.agg #[.int .i64 0, .int .i64 0, .string .empty, .int .u64 0, .bool false, .string .empty]) 6 64 Try.underlying38 info_mact rfl (by decide) u9 put.length (acells put) w2 hrw hB3 (by rfl) #[.int .i64 a.kind, .int .i64 a.n, .string a.v.key, .int .u64 (a.v.seq : Int), .bool a.v.del, .string a.v.val] 44 (by rfl) rfl (by simp [Value.oneCell']) hlk (by decide) ?_; intro g cap w1 hown' hgrow hat hg; have hTw3 := hPut.out w1 g cap hown' hgrow hat))
          go_roundw
          case rel => exact ⟨k + 1, _, hs', bs', put ++ [a], by omega, by go_num, hTw3, by omega, hput2⟩
          case measure => simp [intOf]; omega
        · subst hxe
          go_wp2
          go_roundw
          case rel => exact ⟨k + 1, _, hs', bs', put, by omega, by go_num, hTw2, by omega, hput⟩
          case measure => simp [intOf]; omega
    · obtain rfl : k = l.length := by omega
      have hpb : put.length ≤ l.length := by have := hput.out.len; omega
      have hmay := Lib.hid hput.out.may
      obtain ⟨g, pcap, hu, hcells⟩ := own_macts hTw.row
      have hpg : ∀ q, u9.ownBlock = some q → T2 + 1 ≤ q ∧ q < wr.heap.size := fun q e => hTw.row.lt q e
      subst hu
      obtain ⟨wo, rfl⟩ : ∃ wo : World, wo = wr := ⟨_, rfl⟩
      have hTwo := Lib.hid hTw
      have hbd := Lib.hid hcells
      have hT2o := hTw.b.sk.lt (.inl rfl)
      clear hcells hTw hrow
      go_wp2
      go_loopw [13, 14] (fun i _ W' => ∃ (j : Nat) (ys : List Ver) (hs2 bs2 : List Nat), j ≤ put.length ∧ i = .int .i64 ((j : Int) - 1) ∧ Keep (fun q => q < wo.heap.size ∧ q ≠ T2) wo W' ∧ TblAt W' T2 ys hs2 bs2 ∧ (∀ q, SkB T2 bs2 q → q = T2 ∨ wo.heap.size ≤ q) ∧ Hid (Pl.Back put j ys)) (fun i _ _ => (intOf i + 1).toNat)
      case atStart => exact ⟨put.length, [], [], [], Nat.le_refl _, rfl, Keep.refl _ _, hTwo.out.b, fun q hq => hq.elim .inl (fun h => (by cases h)), Lib.hid ⟨fun x => by simp, by simp⟩⟩
      case round =>
        obtain ⟨j, ys, hs2, bs2, hj, hi, hkp, hb2, hown2, hback⟩ := hrel
        cases j with
        | zero =>
          obtain rfl := hi
          have hext : ys = xs := Pl.ris_ext hb2.good.ris hTwo.out.a.good.ris (fun x => by rw [hback.out.mem x, List.drop_zero, ← hput.out.mem x])
          subst hext
          have ha : TblAt wr T1 ys hs bs := hTwo.out.a.keep hkp (fun q hq => ⟨hTwo.out.a.sk.lt hq, fun e => by rcases hTwo.out.mine q hq with h | h <;> omega⟩)
          have hbw : Below w.heap.size w wr := hkp.below hTwo.out.old (Nat.le_refl _) (fun q hq => ⟨by have := hTwo.out.old.size; omega, by have := hTe.out; omega⟩)
          have hpe : ((ys.length : Int) == (put.length : Int)) = true := by rw [hput.out.len]; simp
          have PA := Lib.hid (fun W (hb : Below wr.heap.size wr W) => tbl_get T1 ys hs bs key sq W (ha.below hb))
          have PB := Lib.hid (fun W (hb : Below wr.heap.size wr W) => tbl_get T2 ys hs2 bs2 key sq W (hb2.below hb))
          have PLa := Lib.hid (fun W (hb : Below wr.heap.size wr W) => tbl_len T1 ys hs bs W (ha.below hb))
          have PLb := Lib.hid (fun W (hb : Below wr.heap.size wr W) => tbl_len T2 ys hs2 bs2 W (hb2.below hb))
          have PYa := Lib.hid (fun W (hb : Below wr.heap.size wr W) => tbl_bytes T1 ys hs bs W (ha.below hb))
          have PYb := Lib.hid (fun W (hb : Below wr.heap.size wr W) => tbl_bytes T2 ys hs2 bs2 W (hb2.below hb))
          have PFa := Lib.hid (fun W (hb : Below wr.heap.size wr W) => tbl_from T1 ys hs bs key 0 W (ha.below hb) (by omega))
          have PFb := Lib.hid (fun W (hb : Below wr.heap.size wr W) => tbl_from T2 ys hs2 bs2 key 0 W (hb2.below hb) (by omega))
          rw [heads_none (by omega)] at PFa PFb
          obtain ⟨r, hr⟩ : ∃ r, Pl.getT ys key sq = r := ⟨_, rfl⟩
          rw [hr] at PA PB
          obtain ⟨⟨rk, rs, rd, rv⟩, ri⟩ := r
          simp only at PA PB
          generalize Pl.bytesOf ys = yb at *
          clear hr ha hb2 hkp hback hTwo hbd hpg hmay hput hown2
          go_wp2_with fail
          refine (PA.out wr (Below.refl _ _)).mono ?_
          rintro e w1 ⟨rfl, b1⟩
          have bx1 := b1.alloc b1.size (.cells #[.string rk, .int .u64 (rs : Int), .bool rd, .string rv] 24)
          have v1 := VrAt.new w1 rk (rs : Int) rd rv 24
          clear PA
          go_wp2_with fail
          generalize w1.alloc (.cells #[.string rk, .int .u64 (rs : Int), .bool rd, .string rv] 24) = w1' at bx1 v1 ⊢
          refine (PB.out w1' bx1).mono ?_
          rintro e w2 ⟨rfl, b2⟩
          have hb12 := bx1.trans (b2.mono bx1.size)
          have bx2 := hb12.alloc hb12.size (.cells #[.string rk, .int .u64 (rs : Int), .bool rd, .string rv] 24)
          have v2 := VrAt.new w2 rk (rs : Int) rd rv 24
          have v1' := (v1.kept b2).alloc (.cells #[.string rk, .int .u64 (rs : Int), .bool rd, .string rv] 24)
          clear PB b1 b2 hb12 v1
          go_wp2_with fail
          generalize w2.alloc (.cells #[.string rk, .int .u64 (rs : Int), .bool rd, .string rv] 24) = w2' at bx2 v2 v1' ⊢
          refine (PLa.out w2' bx2).mono ?_
          rintro e w3 ⟨rfl, he⟩
          obtain rfl : w2' = w3 := he.symm
          go_wp2_with fail
          refine (PLb.out w2' bx2).mono ?_
          rintro e w3 ⟨rfl, he⟩
          obtain rfl : w2' = w3 := he.symm
          go_wp2_with fail
          refine (PYa.out w2' bx2).mono ?_
          rintro e w3 ⟨rfl, he⟩
          obtain rfl : w2' = w3 := he.symm
          go_wp2_with fail
          refine (PYb.out w2' bx2).mono ?_
          rintro e w3 ⟨rfl, he⟩
          obtain rfl : w2' = w3 := he.symm
          clear PLa PLb PYa PYb
          go_wp2_with fail
          refine (PFa.out w2' bx2).mono ?_
          rintro e w3 ⟨f1, rfl, ho1, b3⟩
          have bx3 := bx2.trans (b3.mono bx2.size)
          go_wp2_with fail
          refine (PFb.out w3 bx3).mono ?_
          rintro e w4 ⟨f2, rfl, ho2, b4⟩
          have bx4 := bx3.trans (b4.mono bx3.size)
          have PS := Lib.hid (same_same f1 f2 _ w4 ((own_vers ho1).below b4) (own_vers ho2))
          have v1c := (v1'.kept b3).kept b4
          have v2c := (v2.kept b3).kept b4
          clear PFa PFb ho1 ho2 b3 bx3 b4 bx2 v1' v2
          go_wp2_with fail
          refine PS.out.mono ?_
          rintro e w5 ⟨rfl, hq5⟩
          have b5 := hq5.below w4.heap.size
          have bx5 := bx4.trans (b5.mono bx4.size)
          obtain ⟨p0, p1, p2, p3, pB⟩ := v1c.kept b5
          obtain ⟨q0, q1, q2, q3, qB⟩ := v2c.kept b5
          clear PS v1c v2c b5 bx4
          go_wp2_with fail
          go_ret
          exact ⟨ret_bool (by rfl), hbw.trans (bx5.mono hbw.size)⟩
        | succ j =>
          rw [show (((j + 1 : Nat) : Int) - 1) = (j : Int) by omega] at hi
          subst hi
          have h1 : j < put.length := by omega
          obtain ⟨gb, rfl, hgb, hact⟩ := hbd.out j h1
          have hgp := hpg gb hgb
          have hgk : wr.heap[gb]? = wo.heap[gb]? := hkp.block gb ⟨hgp.2, by omega⟩ hgp.2
          obtain ⟨x0, x1, x2, x3, x4, x5⟩ := hact.kept hgk
          have hm := hmay.out _ (List.getElem_mem h1)
          have hyl : ys.length ≤ put.length := by have := hback.out.len; omega
          have hba := hback.out.add hput.out h1 hs2
          have hgood := hb2.good
          have P := Lib.hid (tbl_add T2 ys hs2 bs2 put[j].v (9 - put[j].n) wr.drew (hb2.below (Below.refl _ _).drew) (by omega))
          generalize Pl.addT ys hs2 put[j].v (9 - put[j].n) = ad at *
          obtain ⟨ys', hs2', cc⟩ := ad
          simp only at hba P
          obtain ⟨rfl, hback2⟩ := hba
          replace hback2 := Lib.hid hback2
          have hwr : IntKind.i64.wrap (j : Int) = (j : Int) := IntWalk.i64_in _ (by omega)
          have hge : (0 : Int) ≤ (j : Int) := by omega
          have hge2 : ¬ ((j : Int) < 0) := by omega
          have hi1 : (j : Int) < (put.length : Int) := by omega
          have hw9 : IntKind.i64.wrap (9 - put[j].n) = 9 - put[j].n := IntWalk.i64_in _ (by omega)
          generalize put[j] = a at *
          go_wp2
          go_still_tail 12, (by kernel_rfl)
          change wpList _ _ _ _ _ wr.drew
          go_wp2_with fail
          refine P.out.mono ?_
          rintro e w1 ⟨rfl, ⟨bs2', ht, hm2⟩, hkk⟩
          have hk1 : Keep (fun q => q < wo.heap.size ∧ q ≠ T2) wo w1 := (hkp.trans ((Keep.refl (fun q => q < wo.heap.size ∧ q ≠ T2) wr).drewN 1) (fun _ h _ => h)).trans hkk (fun q hq _ h3 => by
            rcases hown2 q h3 with h4 | h4
            · exact hq.2 h4
            · omega)
          have hzz := hkp.size
          go_wp2_with fail
          go_roundw
          case rel =>
            refine ⟨j, ys', hs2', bs2', by omega, rfl, hk1, ht, fun q hq => ?_, hback2⟩
            rcases hm2 q hq with h3 | h3
            · exact hown2 q h3
            · right; exact Nat.le_trans hzz h3
          case measure => simp [intOf]
end Go.Proofs.Ytcfcijgnkbmlaaa
