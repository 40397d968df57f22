/- Walks: the document's filters built. Condition: keys that the form's reach lets. -/
import Derived.Test.YtcfcijgnkbmlaaaWRefPlaces
import Derived.Test.YtcfcijgnkbmlaaaWBuild
import Derived.StillTailTactics
namespace Go.Proofs.Ytcfcijgnkbmlaaa
open Go.RowKit

theorem build_nil {each : Int} {keys : List ByteArray} (h : each < 1 ∨ keys.length = 0) : Pl.build each (texts keys) = [] := by
  unfold Pl.build
  rw [if_pos]
  rcases h with h | h
  · exact .inl h
  · right
    have : keys = [] := List.length_eq_zero_iff.1 h
    rw [this]; rfl
theorem build_eq {each : Int} {keys : List ByteArray} {e k m q : Nat} (h1 : 1 ≤ each) (h2 : 0 < keys.length) (hE : e = min each.toNat 20) (hK : k = max (e * 69 / 100) 1) (hm : m = e * keys.length) (hQ : q = max ((m + 7) / 8) 8) :
    Pl.build each (texts keys) = Pl.withPlaces k q (texts keys) := by
  unfold Pl.build
  rw [if_neg (by rintro (h | h); omega; have := congrArg List.length h; simp [texts] at this; rw [this] at h2; simp at h2), ← Pl.withPlaces_eq]
  have hl : (texts keys).length = keys.length := by simp [texts]
  congr 1
  · rw [hK, hE]; unfold Pl.manyPlaces; rfl
  · rw [hQ, hm, hE, hl]; unfold Pl.manyBytes; rfl

theorem grownBy_setCell2 (W : World) (b o : Nat) (v : Value) : W.grownBy (W.setCell ⟨b, o, none⟩ v) (some b) :=
  ⟨rfl, rfl, rfl, by simp [World.setCell], fun k _ hk => Below.heap_setCell _ _ _ k (fun e => hk (by rw [e]))⟩

set_option maxRecDepth 100000 in
set_option maxHeartbeats 2000000 in
theorem refBuild_none (each : Int) (ao : Option Addr) (len cap : Nat) (keys : List ByteArray) (w : World) (h : each < 1 ∨ keys.length = 0) (hl : keys.length = len) :
    Calls Try.prog 19 #[.int .i64 each, .slice ao len cap] w fun e w' => e = .returned (.string ⟨(Pl.build each (texts keys)).toArray⟩) ∧ w = w' := by
  rw [build_nil h, mk_empty]
  rw [hl] at h
  by_cases h1 : each < 1
  · go_enter Try.func19, Try.ntmps19
    go_wp2
    go_ret
    exact ⟨rfl, rfl⟩
  · obtain rfl : len = 0 := by rcases h with h | h; exact absurd h h1; exact h
    have hd : decide (each < 1) = false := by simpa using h1
    go_enter Try.func19, Try.ntmps19
    go_wp2
    go_ret
    exact ⟨rfl, rfl⟩

set_option maxRecDepth 100000 in
set_option maxHeartbeats 4000000 in
theorem refBuild_some (each : Int) (b0 off cap : Nat) (keys : List ByteArray) (w : World) (h1 : 1 ≤ each) (h2 : each ≤ 9223372036854775807) (hl0 : 0 < keys.length) (hl1 : keys.length ≤ 8796093022208)
    (hc : ∀ i (hi : i < keys.length), w.cell? ⟨b0, off + i, none⟩ = some (.string keys[i])) (hB : b0 < w.heap.size) (hsz : ∀ i (hi : i < keys.length), (keys[i]).size ≤ 9223372036854775807) :
    Calls Try.prog 19 #[.int .i64 each, .slice (some ⟨b0, off, none⟩) keys.length cap] w fun e w' => e = .returned (.string ⟨(Pl.build each (texts keys)).toArray⟩) ∧ Below w.heap.size w w' := by
  have hd : decide (each < 1) = false := by simp; omega
  go_enter Try.func19, Try.ntmps19
  go_upto_region 3 with (fail)
  go_cut [0] from 12 (fun v wx => (∃ e : Nat, 1 ≤ e ∧ e ≤ 20 ∧ e = min each.toNat 20 ∧ v = .int .i64 e) ∧ w = wx)
  case first =>
    go_wp2
    all_goals go_meet
    all_goals exact ⟨⟨min each.toNat 20, by omega, by omega, rfl, val_int (by omega)⟩, rfl⟩
  case rest =>
    obtain ⟨⟨e, he1, he2, hE, rfl⟩, rfl⟩ := hcut
    replace hE := Lib.hid hE
    go_upto_region 4 with (fail)
    go_cut [5] from 12 (fun v wx => (∃ k : Nat, 1 ≤ k ∧ k ≤ 13 ∧ k = max (e * 69 / 100) 1 ∧ v = .int .i64 k) ∧ w = wx)
    case first =>
      go_wp2
      all_goals go_meet
      all_goals exact ⟨⟨max (e * 69 / 100) 1, by omega, by omega, rfl, val_int (by omega)⟩, rfl⟩
    case rest =>
      obtain ⟨⟨k, hk1, hk2, hK, rfl⟩, rfl⟩ := hcut
      replace hK := Lib.hid hK
      obtain ⟨m, hm⟩ : ∃ m, m = e * keys.length := ⟨_, rfl⟩
      have hm2 : m ≤ 20 * 8796093022208 := by rw [hm]; exact Nat.mul_le_mul he2 hl1
      have hpm : (e : Int) * (keys.length : Int) = (m : Int) := by rw [hm]; simp
      replace hm := Lib.hid hm
      go_upto_region 5 with (fail)
      go_cut [6] from 12 (fun v wx => (∃ t : Nat, t = max m 64 ∧ v = .int .i64 t) ∧ w = wx)
      case first =>
        go_wp2
        all_goals go_meet
        all_goals exact ⟨⟨max m 64, rfl, val_int (by omega)⟩, rfl⟩
      case rest =>
        obtain ⟨⟨t, ht, rfl⟩, rfl⟩ := hcut
        obtain ⟨q, hQ⟩ : ∃ q, q = max ((m + 7) / 8) 8 := ⟨_, rfl⟩
        have htq : t ≤ 8 * q ∧ 8 * q < t + 8 ∧ 8 ≤ q ∧ q ≤ 35184372088832 := by omega
        obtain ⟨ht1, ht2, hq1, hq2⟩ := htq
        clear hpm hm2 ht
        have hfin := Lib.hid (build_eq h1 hl0 hE.out hK.out hm.out hQ)
        clear hE hK hm hQ
        go_wp2
        go_loop [6] (fun v => ∃ x : Nat, x ≤ 8 * q ∧ 8 * q < x + 8 ∧ v = .int .i64 x) (fun v => 8 * q - (intOf v).toNat)
        case atStart => exact ⟨t, by omega, by omega, rfl⟩
        case round =>
          obtain ⟨x, hx1, hx2, rfl⟩ := hrel
          by_cases hx : x = 8 * q
          · subst hx
            have hmk := make_bytes (1 + q) (by omega)
            have e1 : ((1 + q : Nat) : Int) = 1 + (q : Int) := by omega
            rw [e1] at hmk
            clear e1
            have hz0 : (bcells (List.replicate (1 + q) 0))[0]? = some (.int .u8 0) := by rw [Nat.add_comm, List.replicate_succ]; rfl
            have hdiv : ((8 * q : Nat) : Int) / 8 = (q : Int) := by omega
            have hdiv2 : 8 * (q : Int) / 8 = (q : Int) := by omega
            have hdec2 : decide ((0 : Int) < 8 * (q : Int) % 8) = false := by simp
            go_wp2
            clear hmk hz0 hdiv hdiv2 hdec2
            have hB0 := Bytes.new w (UInt8.ofNat k :: List.replicate q 0)
            rw [← first_byte k q hk2] at hB0
            have hb0 : Below w.heap.size w (w.alloc (.cells ((bcells (List.replicate (1 + q) 0)).set 0 (.int .u8 (k : Int))).toArray 5)) := (Below.refl _ _).alloc (Nat.le_refl _) _
            generalize (w.alloc (.cells ((bcells (List.replicate (1 + q) 0)).set 0 (.int .u8 (k : Int))).toArray 5)) = W0 at hB0 hb0 ⊢
            go_loopw [8] (fun v W => ∃ j : Nat, j ≤ keys.length ∧ v = .int .i64 j ∧ Bytes W w.heap.size (Pl.withPlaces k q (texts (keys.take j))) ∧ Below w.heap.size w W) (fun v _ => keys.length - (intOf v).toNat)
            case atStart => exact ⟨0, by omega, rfl, hB0, hb0⟩
            case round =>
              obtain ⟨j, hj, rfl, hBy, hbW⟩ := hrel
              obtain ⟨W, rfl⟩ : ∃ X : World, X = wr := ⟨_, rfl⟩
              clear hB0 hb0
              by_cases hjl : j < keys.length
              · have hcj := (hbW.cell (p := ⟨b0, off + j, none⟩) hB).trans (hc j hjl)
                have hlenP : (Pl.keyPlaces keys[j].data.toList k (8 * q)).length = k := Pl.places_length _ _ _ _
                have hltP : ∀ x ∈ Pl.keyPlaces keys[j].data.toList k (8 * q), x < 8 * q := Pl.places_lt (by omega) _
                have hnext : Hid (Pl.withPlaces k q (texts (keys.take (j + 1))) = Pl.setBits (Pl.withPlaces k q (texts (keys.take j))) (Pl.keyPlaces keys[j].data.toList k (8 * q))) := by
                  show _ = _
                  rw [List.take_succ_eq_append_getElem hjl, texts, List.map_append, List.map_singleton, Pl.withPlaces_snoc]; rfl
                have hcurl := Pl.withPlaces_length k q (texts (keys.take j))
                have P1 := Lib.hid (fun w => refPlaces_any keys[j] k (8 * q) w (hsz j hjl) (by omega) (by omega) (by omega))
                have e8 : ((8 * q : Nat) : Int) = 8 * (q : Int) := by omega
                rw [e8] at P1
                clear e8
                generalize Pl.keyPlaces keys[j].data.toList k (8 * q) = ps at P1 hlenP hltP hnext
                generalize Pl.withPlaces k q (texts (keys.take j)) = cur at hBy hcurl hnext
                go_wp2_with fail
                refine (P1.out _).mono ?_
                rintro e1 W1 ⟨v1, rfl, hown⟩
                have hr1 := hown.1
                rw [show k = (k - 1) + 1 from by omega] at hr1
                obtain ⟨g, cp, rfl⟩ := ownsRow_succ hr1
                rw [show (k - 1) + 1 = k from by omega] at hr1 ⊢
                have hBy1 := hBy.below hown.below hBy.lt
                have hb1 := hbW.trans (hown.below.mono hbW.size)
                have hgg : W.heap.size ≤ g := (hr1.lt g rfl).1
                have hgw := hBy.lt
                clear hown
                replace hcurl := Lib.hid hcurl
                replace hlenP := Lib.hid hlenP
                go_wp2
                go_loopw [10] (fun v X => ∃ i : Nat, i ≤ k ∧ v = .int .i64 i ∧ Bytes X w.heap.size (Pl.setBits cur (ps.take i)) ∧ X.ownsRow W.heap.size 3 1 (.slice (some ⟨g, 0, none⟩) k cp) k (icells ps) ∧ Below w.heap.size w X) (fun v _ => k - (intOf v).toNat)
                case atStart => exact ⟨0, by omega, rfl, hBy1, hr1, hb1⟩
                case round =>
                  obtain ⟨i, hi, rfl, hBX, hrX, hbX⟩ := hrel
                  by_cases hik : i < k
                  · have hip : i < ps.length := by rw [hlenP.out]; exact hik
                    have hcp : wr.cell? ⟨g, i, none⟩ = some (.int .i64 (ps[i] : Int)) := by
                      rw [hrX.cellAt i (by omega)]; simp [icells, hip]
                    have hy := hltP ps[i] (List.getElem_mem hip)
                    have hps1 : Hid (Pl.setBits cur (ps.take (i + 1)) = Pl.setBit (Pl.setBits cur (ps.take i)) ps[i]) := by
                      show _ = _
                      rw [List.take_succ_eq_append_getElem hip, Pl.setBits_snoc]
                    have hLl : (Pl.setBits cur (ps.take i)).length = 1 + q := by rw [Pl.setBits_length, hcurl.out]
                    generalize hyE : ps[i] = y at *
                    generalize Pl.setBits cur (ps.take i) = L at *
                    have hyl : 1 + y / 8 < L.length := by omega
                    have c1 := hBX.cell hyl
                    have z1 := hBX.frozen (1 + y / 8)
                    have hw1 : IntKind.i64.wrap (1 + (y : Int) / 8) = 1 + (y : Int) / 8 := IntWalk.i64_in _ (by omega)
                    have hw2 : (0 : Int) ≤ 1 + (y : Int) / 8 := by omega
                    have hw3' : 1 + (y : Int) / 8 < 1 + (q : Int) := by omega
                    have hw4 : (1 + (y : Int) / 8).toNat = 1 + y / 8 := by omega
                    replace hLl := Lib.hid hLl
                    clear hyE
                    go_wp2
                    go_still_tail 15, (by kernel_rfl)
                    change wpList _ _ _ _ _ wr.drew
                    go_wp2
                    rw [show min (y % 8) 8 = y % 8 from by omega, or_pow]
                    have hgne : ¬ g = w.heap.size := by omega
                    have hbW2 : Below w.heap.size w (wr.setCell ⟨w.heap.size, 1 + y / 8, none⟩ (.int .u8 ((L[1 + y / 8] ||| UInt8.ofNat (2 ^ (y % 8))).toNat : Int))) := hbX.setCell (Nat.le_refl _) _
                    have hrX2 := (hrX.kept (grownBy_setCell2 wr w.heap.size (1 + y / 8) (.int .u8 ((L[1 + y / 8] ||| UInt8.ofNat (2 ^ (y % 8))).toNat : Int))) (.inr (fun e => hgne (by simpa [Value.ownBlock] using e))))
                    have hBX2 := hBX.set (1 + y / 8) (L[1 + y / 8] ||| UInt8.ofNat (2 ^ (y % 8)))
                    go_roundw
                    case rel => exact ⟨i + 1, by omega, by go_num, by
                      rw [hps1.out]
                      unfold Pl.setBit
                      rw [List.getElem?_eq_getElem hyl]
                      exact hBX2, hrX2.drew, hbW2.drew⟩
                    case measure => simp [intOf]; omega
                  · obtain rfl : i = k := by omega
                    go_wp2
                    go_roundw
                    case rel => exact ⟨j + 1, by omega, by go_num, by
                      rw [hnext.out, ← List.take_of_length_le (Nat.le_of_eq hlenP.out)]
                      exact hBX, hbX⟩
                    case measure => simp [intOf]; omega
              · obtain rfl : j = keys.length := by omega
                have hlen := Pl.withPlaces_length k q (texts (keys.take keys.length))
                have hst := hBy.str (1 + q)
                rw [hlen, List.take_length] at hst
                clear hlen
                go_wp2
                go_ret
                exact ⟨ret_str (by rw [hfin.out]), hbW⟩
          · have hdec : (0 : Int) < (x : Int) % 8 := by omega
            go_wp2
            go_round
            case rel => exact ⟨x + 1, by omega, by omega, by go_num⟩
            case measure => simp [intOf]; omega
end Go.Proofs.Ytcfcijgnkbmlaaa
