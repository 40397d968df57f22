/- Walks: filters built. Condition: keys that the form's reach lets. -/
import Derived.Test.YtcfcijgnkbmlaaaWPlaces
import Derived.Test.YtcfcijgnkbmlaaaBytes
import Derived.Test.YtcfcijgnkbmlaaaMarks
import Derived.Test.YtcfcijgnkbmlaaaRound
import Derived.Test.YtcfcijgnkbmlaaaVer
import Derived.Deep.RegionWith
import Derived.Deep.DeepCutAuto
import Derived.IntWalk
namespace Go.Proofs.Ytcfcijgnkbmlaaa
open Go.RowKit Go.Shelf

attribute [local go_sem] Oper.semAt_some

def texts (l : List ByteArray) : List (List UInt8) := l.map fun s => s.data.toList
theorem mk_empty : (ByteArray.mk ([] : List UInt8).toArray) = ByteArray.empty := rfl

theorem first_byte (k q : Nat) (hk : k ≤ 13) : (bcells (List.replicate (1 + q) 0)).set 0 (.int .u8 (k : Int)) = bcells (UInt8.ofNat k :: List.replicate q 0) := by
  have e : (UInt8.ofNat k).toNat = k := by rw [UInt8.toNat_ofNat']; omega
  rw [Nat.add_comm, List.replicate_succ]
  simp only [bcells, List.map_cons, List.set_cons_zero, e]
theorem ofInt_i64 (a : Nat) (ha : a < 9223372036854775808) : (BitVec.ofInt 64 (a : Int)).toNat = a := by
  rw [BitVec.ofInt_natCast, BitVec.toNat_ofNat]; exact Nat.mod_eq_of_lt (by omega)
theorem and7 (y : Nat) (h : y < 9223372036854775808) : bits .and .i64 (y : Int) 7 = ((y % 8 : Nat) : Int) := by
  show IntKind.i64.wrap ((BitVec.ofInt 64 (y : Int) &&& BitVec.ofInt 64 ((7 : Nat) : Int)).toNat : Int) = _
  rw [BitVec.toNat_and, ofInt_i64 y h, ofInt_i64 7 (by omega), IntKind.wrap_i64, show (7 : Nat) = 2 ^ 3 - 1 from rfl, Nat.and_two_pow_sub_one_eq_mod]
  omega
theorem or_pow (b : UInt8) (y : Nat) : bits .or .u8 (b.toNat : Int) ((2 : Int) ^ (y % 8) % 256) = ((b ||| UInt8.ofNat (2 ^ (y % 8))).toNat : Int) := by
  have h2 : (2 : Nat) ^ (y % 8) ≤ 2 ^ 7 := Nat.pow_le_pow_right (by omega) (by omega)
  have e : ((2 : Int) ^ (y % 8) % 256) = ((2 ^ (y % 8) : Nat) : Int) := by
    have h3 : ((2 : Int) ^ (y % 8)) = ((2 ^ (y % 8) : Nat) : Int) := by simp
    rw [h3]
    clear h3
    generalize (2 : Nat) ^ (y % 8) = p at h2 ⊢
    omega
  rw [e, u8_or_nat _ _ b.toNat_lt (by omega), UInt8.toNat_or, Pl.ofNat_pow _ (by omega)]
theorem val_int {k : IntKind} {a b : Int} (h : a = b) : Value.int k a = .int k b := by rw [h]

set_option maxRecDepth 100000 in
set_option maxHeartbeats 2000000 in
theorem build_none (each : Int) (ao : Option Addr) (len cap : Nat) (keys : List ByteArray) (w : World) (h : each < 1 ∨ len = 0) (hl : keys.length = len) :
    Calls Try.prog 17 #[.int .i64 each, .slice ao len cap] w fun e w' => e = .returned (.string ⟨(Pl.build each (texts keys)).toArray⟩) ∧ w = w' := by
  have hb : Pl.build each (texts keys) = [] := by
    unfold Pl.build
    rw [if_pos]
    rcases h with h | h
    · exact .inl h
    · right
      have : keys = [] := List.length_eq_zero_iff.1 (by omega)
      rw [this]; rfl
  rw [hb, mk_empty]
  rcases h with h | rfl
  · go_enter Try.func17, Try.ntmps17
    go_wp2
    go_ret
    exact ⟨rfl, rfl⟩
  · by_cases h1 : each < 1
    · go_enter Try.func17, Try.ntmps17
      go_wp2
      go_ret
      exact ⟨rfl, rfl⟩
    · have hd : decide (each < 1) = false := by simpa using h1
      go_enter Try.func17, Try.ntmps17
      go_wp2
      go_ret
      exact ⟨rfl, rfl⟩

set_option maxRecDepth 100000 in
set_option maxHeartbeats 2000000 in
theorem build_some (n : Nat) (each : Int) (b0 off cap : Nat) (keys : List ByteArray) (w : World) (h1 : 1 ≤ each) (h2 : each ≤ 9223372036854775807) (hl0 : 0 < keys.length) (hl1 : keys.length ≤ 8796093022208)
    (hc : ∀ i (hi : i < keys.length), w.cell? ⟨b0, off + i, none⟩ = some (.string keys[i])) (hB : b0 < w.heap.size) (hsz : ∀ i (hi : i < keys.length), (keys[i]).size ≤ 9223372036854775807) :
    CallsIn Fence.wide n Try.prog 17 #[.int .i64 each, .slice (some ⟨b0, off, none⟩) keys.length cap] w fun e w' => e = .returned (.string ⟨(Pl.build each (texts keys)).toArray⟩) ∧ Below w.heap.size w w' := by
  refine callsIn_of_wp_marks Try.func17 rfl trivial (wpIn_wide.2 ?_) rfl
  simp only [Try.ntmps17, List.size_toArray, List.length_cons, List.length_nil, Nat.reduceAdd, Nat.reduceSub, Array.replicate_succ, Array.replicate_zero, List.push_toArray, List.append_toArray, List.nil_append, List.cons_append]
  have hd : decide (each < 1) = false := by simp; omega
  go_upto_region 3 with (fail)
  go_cut [0] from 11 (fun v wx => (∃ e : Nat, 1 ≤ e ∧ e ≤ 20 ∧ e = min each.toNat 20 ∧ v = .int .i64 e) ∧ w = wx)
  case first =>
    go_wp2
    all_goals go_meet
    all_goals exact ⟨⟨min each.toNat 20, by omega, by omega, rfl, val_int (by omega)⟩, rfl⟩
  case rest =>
    obtain ⟨⟨e, he1, he2, hE, rfl⟩, rfl⟩ := hcut
    replace hE := Lib.hid hE
    go_upto_region 4 with (fail)
    go_cut [5] from 11 (fun v wx => (∃ k : Nat, 1 ≤ k ∧ k ≤ 13 ∧ k = max (e * 69 / 100) 1 ∧ v = .int .i64 k) ∧ w = wx)
    case first =>
      go_wp2
      all_goals go_meet
      all_goals exact ⟨⟨max (e * 69 / 100) 1, by omega, by omega, rfl, val_int (by omega)⟩, rfl⟩
    case rest =>
      obtain ⟨⟨k, hk1, hk2, hK, rfl⟩, rfl⟩ := hcut
      replace hK := Lib.hid hK
      obtain ⟨m, hm⟩ : ∃ m, m = e * keys.length := ⟨_, rfl⟩
      have hm2 : m ≤ 20 * 8796093022208 := by rw [hm]; exact Nat.mul_le_mul he2 hl1
      have hpm : (e : Int) * (keys.length : Int) = (m : Int) := by rw [hm]; simp
      replace hm := Lib.hid hm
      go_upto_region 5 with (fail)
      go_cut [6] from 11 (fun v wx => (∃ q : Nat, 8 ≤ q ∧ q ≤ 35184372088832 ∧ q = max ((m + 7) / 8) 8 ∧ v = .int .i64 q) ∧ w = wx)
      case first =>
        go_wp2
        all_goals go_meet
        all_goals exact ⟨⟨max ((m + 7) / 8) 8, by omega, by omega, rfl, val_int (by omega)⟩, rfl⟩
      case rest =>
        obtain ⟨⟨q, hq1, hq2, hQ, rfl⟩, rfl⟩ := hcut
        replace hQ := Lib.hid hQ
        clear hpm hm2
        have hmk := make_bytes (1 + q) (by omega)
        have e1 : ((1 + q : Nat) : Int) = 1 + (q : Int) := by omega
        rw [e1] at hmk
        clear e1
        have hz0 : (bcells (List.replicate (1 + q) 0))[0]? = some (.int .u8 0) := by rw [Nat.add_comm, List.replicate_succ]; rfl
        go_wp2
        clear hz0 hmk
        have hB0 := Bytes.new w (UInt8.ofNat k :: List.replicate q 0)
        rw [← first_byte k q hk2] at hB0
        have hB1 := hB0.below ((Below.refl (w.heap.size + 1) (w.alloc (.cells ((bcells (List.replicate (1 + q) 0)).set 0 (.int .u8 (k : Int))).toArray 5))).alloc (by simp) (.cells #[.slice (some ⟨w.heap.size, 0, none⟩) (1 + q) (1 + q)] 69)) (by omega)
        have bX := Boxed.new (w.alloc (.cells ((bcells (List.replicate (1 + q) 0)).set 0 (.int .u8 (k : Int))).toArray 5)) 69 (.slice (some ⟨w.heap.size, 0, none⟩) (1 + q) (1 + q))
        rw [World.size_alloc] at bX
        have hb0 : Below w.heap.size w ((w.alloc (.cells ((bcells (List.replicate (1 + q) 0)).set 0 (.int .u8 (k : Int))).toArray 5)).alloc (.cells #[.slice (some ⟨w.heap.size, 0, none⟩) (1 + q) (1 + q)] 69)) := ((Below.refl _ _).alloc (Nat.le_refl _) _).alloc (by simp) _
        refine wp_loop (fun a W => ∃ (j : Nat) (Ds : List Nat), j ≤ keys.length ∧ Bytes W w.heap.size (Pl.withPlaces k q (texts (keys.take j))) ∧ Boxed W (w.heap.size + 1) 69 (.slice (some ⟨w.heap.size, 0, none⟩) (1 + q) (1 + q)) ∧ Below w.heap.size w W ∧ Marked Ds W ∧ (∀ D ∈ Ds, w.heap.size + 1 < D) ∧
            ∃ v9 v10 v41 v42 v43 v44 v45 v46 v47 v48 v49 v50 v51 v52 v53 v54 v55 v56 v57 v58 v59 v60 v61 : Value, a = ⟨#[.int .i64 (e : Int), .slice (some ⟨b0, off, none⟩) keys.length cap, undef, undef, .string ⟨#[]⟩, .int .i64 (k : Int), .int .i64 (q : Int), .pointer (some ⟨w.heap.size + 1, 0, none⟩), undef, v9, v10, u11, u12, u13, u14, u15, u16, u17, u18, u19, u20, u21, u22, u23, u24, u25, u26, u27, u28, u29, u30, .int .i64 (q : Int), .int .i64 (1 + (q : Int)), .slice (some ⟨w.heap.size, 0, none⟩) (1 + q) (1 + q), .slice (some ⟨w.heap.size, 0, none⟩) (1 + q) (1 + q), .int .i64 (k : Int), .int .u8 (k : Int), .pointer (some ⟨w.heap.size, 0, none⟩), .slice (some ⟨b0, off, none⟩) keys.length cap, .int .i64 (keys.length : Int), .int .i64 (j : Int), v41, v42, v43, v44, v45, v46, v47, v48, v49, v50, v51, v52, v53, v54, v55, v56, v57, v58, v59, v60, v61, u62, u63], Ds.map mark⟩) (fun a _ => keys.length - (intOf (a.tmps.getD 40 undef)).toNat) ?_ ?_
        · exact ⟨0, [], by omega, hB1, bX, hb0, Marked.nil _, (fun _ h => by cases h), _, _, _, _, _, _, _, _, _, _, _, _, _, _, _, _, _, _, _, _, _, _, _, rfl⟩
        · rintro a W ⟨j, Ds, hj, hBy, hBx, hbW, hM, hDl, v9, v10, v41, v42, v43, v44, v45, v46, v47, v48, v49, v50, v51, v52, v53, v54, v55, v56, v57, v58, v59, v60, v61, rfl⟩
          by_cases hjl : j < keys.length
          · have hcj := (hbW.cell (p := ⟨b0, off + j, none⟩) hB).trans (hc j hjl)
            have hcX := hBx.cell
            go_wp2_with (go_at_call 41; refine (callsIn_wide.1 (places_in 3 _ _ _ _)).mono ?_; rintro e w' ⟨rfl, rfl⟩)
            have bK := Boxed.new W 9 (.string keys[j])
            have bN := Boxed.new (W.alloc (.cells #[.string keys[j]] 9)) 3 (.int .i64 (k : Int))
            have bM := Boxed.new ((W.alloc (.cells #[.string keys[j]] 9)).alloc (.cells #[.int .i64 (k : Int)] 3)) 3 (.int .i64 (8 * (q : Int)))
            simp only [World.size_alloc] at bN bM
            replace bK := (bK.alloc (.cells #[.int .i64 (k : Int)] 3)).alloc (.cells #[.int .i64 (8 * (q : Int))] 3)
            replace bN := bN.alloc (.cells #[.int .i64 (8 * (q : Int))] 3)
            have hk3 : ∀ f : Nat → Prop, Keep f W (((W.alloc (.cells #[.string keys[j]] 9)).alloc (.cells #[.int .i64 (k : Int)] 3)).alloc (.cells #[.int .i64 (8 * (q : Int))] 3)) := fun f => (((Keep.refl f W).alloc _).alloc _).alloc _
            have hz3 : (((W.alloc (.cells #[.string keys[j]] 9)).alloc (.cells #[.int .i64 (k : Int)] 3)).alloc (.cells #[.int .i64 (8 * (q : Int))] 3)).heap.size = W.heap.size + 3 := by simp
            generalize (((W.alloc (.cells #[.string keys[j]] 9)).alloc (.cells #[.int .i64 (k : Int)] 3)).alloc (.cells #[.int .i64 (8 * (q : Int))] 3)) = W0 at bK bN bM hk3 hz3 ⊢
            have hgW := hBy.lt
            have hlen := Pl.withPlaces_length k q (texts (keys.take j))
            generalize hcur : Pl.withPlaces k q (texts (keys.take j)) = cur at hBy hlen
            replace hcur := Lib.hid hcur
            have e8 : (8 * (q : Int)) = ((8 * q : Nat) : Int) := by omega
            rw [e8] at bM
            refine wpIn_wide.1 (wpIn_rangeF (n := 4) (F := Fence.wide) rfl (by omega) (gf := 54) (lb := #[.pointer (some ⟨W.heap.size, 0, none⟩), .pointer (some ⟨W.heap.size + 1, 0, none⟩), .pointer (some ⟨W.heap.size + 1 + 1, 0, none⟩)]) rfl trivial (enters_of Try.func54 (by kernel_rfl) rfl)
              (places1_seq 3 W.heap.size (by omega) keys[j] k (8 * q) W0 (hsz j hjl) (by omega) (by omega) (by omega) bK bN bM) (fun _ => rfl) (by rintro z (h | h | h) <;> omega) (fun _ h => h.elim)
              (fun pre fp X => (∀ z, z < W.heap.size → fp z) ∧ Bytes X w.heap.size (Pl.setBits cur (pre.map Fin.val)) ∧ Keep (fun z => z < W.heap.size ∧ z ≠ w.heap.size) W X)
              (fun _ _ _ _ => False)
              (fun pre x a' fp X => ((∀ z, z < W.heap.size → fp z) ∧ Bytes X w.heap.size (Pl.setBits cur (pre.map Fin.val)) ∧ Keep (fun z => z < W.heap.size ∧ z ≠ w.heap.size) W X) ∧ a' = { tmps := #[.int .i64 (e : Int), .slice (some ⟨b0, off, none⟩) keys.length cap, undef, undef, .string ⟨#[]⟩, .int .i64 (k : Int), .int .i64 (q : Int), .pointer (some ⟨w.heap.size + 1, 0, none⟩), undef, .string (keys[j]'hjl), .int .i64 (x.val : Int), u11, u12, u13, u14, u15, u16, u17, u18, u19, u20, u21, u22, u23, u24, u25, u26, u27, u28, u29, u30, .int .i64 (q : Int), .int .i64 (1 + (q : Int)), .slice (some ⟨w.heap.size, 0, none⟩) (1 + q) (1 + q), .slice (some ⟨w.heap.size, 0, none⟩) (1 + q) (1 + q), .int .i64 (k : Int), .int .u8 (k : Int), .pointer (some ⟨w.heap.size, 0, none⟩), .slice (some ⟨b0, off, none⟩) keys.length cap, .int .i64 (keys.length : Int), .int .i64 (j : Int), .bool true, .pointer (some ⟨b0, off + j, none⟩), .string (keys[j]'hjl), .string (keys[j]'hjl), .int .i64 (k : Int), .int .i64 (q : Int), .int .i64 (8 * (q : Int)), .func (.func 54) #[] #[.pointer (some ⟨W.heap.size, 0, none⟩), .pointer (some ⟨W.heap.size + 1, 0, none⟩), .pointer (some ⟨W.heap.size + 1 + 1, 0, none⟩)], .int .i64 (x.val : Int), v50, v51, v52, v53, v54, v55, v56, v57, v58, v59, v60, v61, u62, u63], defers := [] })
              ?_ ?_ ?_ (fun z => z < W.heap.size) ?_ ?_ ?_ ?assign ?body ?done ?stop)
            case assign =>
              intro l pre x fp X K hI hlt hlen2 hK2
              unfold encN
              rw [fold1]
              simp only [List.setIfInBounds_toArray, List.set_cons_succ, List.set_cons_zero]
              gi_wp2
              exact hK2 _ fp X (Step.refl hlt) ⟨hI, rfl⟩
            case body =>
              rintro l pre x a' fp X ⟨⟨hfp, hBX, hkX⟩, rfl⟩ hlt hlen2
              have cX := (hkX.boxed ⟨hBx.lt, by omega⟩ hBx).cell
              clear e8 bM bN bK hk3
              obtain ⟨y, hy⟩ := x
              have hsl := Pl.setBits_length cur (pre.map Fin.val)
              generalize hL : Pl.setBits cur (pre.map Fin.val) = L at hBX hsl
              replace hL := Lib.hid hL
              have hyl : 1 + y / 8 < L.length := by omega
              have c1 := hBX.cell hyl
              have z1 := hBX.frozen (1 + y / 8)
              have ha7 := and7 y (by omega)
              have hq0 : 0 ≤ (y : Int) := by omega
              have hw1 : IntKind.i64.wrap (1 + (y : Int) / 8) = 1 + (y : Int) / 8 := IntWalk.i64_in _ (by omega)
              have hw2 : (0 : Int) ≤ 1 + (y : Int) / 8 := by omega
              have hw3 : 1 + (y : Int) / 8 < ((1 + q : Nat) : Int) := by omega
              have hw3' : 1 + (y : Int) / 8 < 1 + (q : Int) := by omega
              have hw4 : (1 + (y : Int) / 8).toNat = 1 + y / 8 := by omega
              replace hlen := Lib.hid hlen
              replace hsl := Lib.hid hsl
              gi_wp2
              refine wpIn_round_tail 11 (by kernel_rfl) (by kernel_rfl) (by rintro ⟨a, w, h⟩; exact h) (by kernel_rfl) ?_
              simp only [List.take_succ_cons, List.take_zero, List.drop_succ_cons, List.drop_zero]
              repeat still_step
              refine wpStill_nil ?_
              change wpList _ _ _ _ _ X.drew
              go_wp2
              rw [or_pow]
              refine ⟨fp, ⟨hfp, ?_, ?_⟩, ⟨?_, fun _ h => .inl h, ?_⟩⟩
              · have hb := hBX.set (1 + y / 8) (L[1 + y / 8] ||| UInt8.ofNat (2 ^ (y % 8)))
                have he : Pl.setBits cur ((pre ++ [(⟨y, hy⟩ : Fin (8 * q))]).map Fin.val) = L.set (1 + y / 8) (L[1 + y / 8] ||| UInt8.ofNat (2 ^ (y % 8))) := by
                  rw [List.map_append, Pl.setBits_append, hL.out]
                  show Pl.setBit L y = _
                  unfold Pl.setBit
                  rw [List.getElem?_eq_getElem hyl]; rfl
                rw [he]
                exact hb
              · exact ((hkX.setCell _ _ _ (fun h _ => h.2 rfl)).drew)
              · exact (((Keep.refl _ X).setCell _ _ _ (fun h _ => h (hfp _ hgW))).drew)
              · intro z hz
                have := hlt z hz
                simpa [World.setCell] using this
            case done =>
              rintro D ys fp X hD hnD hnew hlt hkp hys ⟨hfp, hBX, hkX⟩ hKD
              have hBx2 := hkX.boxed ⟨hBx.lt, by omega⟩ hBx
              go_wp2
              refine ⟨⟨j + 1, D :: Ds, by omega, ?_, hBx2, ?_, ?_, ?_, _, _, _, _, _, _, _, _, _, _, _, _, _, _, _, _, _, _, _, _, _, _, _, rfl⟩, ?_⟩
              · have he : Pl.withPlaces k q (texts (keys.take (j + 1))) = Pl.setBits cur (ys.map Fin.val) := by
                  rw [hys, ← hcur.out, List.take_succ_eq_append_getElem hjl, texts, List.map_append, List.map_singleton, Pl.withPlaces_snoc]; rfl
                rw [he]; exact hBX
              · exact ⟨hkX.os.trans hbW.os, hkX.tape.trans hbW.tape, hkX.output.trans hbW.output, Nat.le_trans hbW.size hkX.size, fun z hz => (hkX.block z ⟨by have := hbW.size; omega, by omega⟩ (by have := hbW.size; omega)).trans (hbW.block z hz)⟩
              · exact (hM.keep hkX (fun z hz => ⟨hM.lt z hz, by have := hDl z hz; omega⟩)).cons hKD (fun h => by have := hM.lt D h; omega)
              · intro z hz
                rcases List.mem_cons.1 hz with rfl | hz
                · have := hBx.lt; omega
                · exact hDl z hz
              · simp [intOf]; omega
            case stop =>
              rintro D c pre fp X _ _ _ _ _ _ h
              exact h.elim
            · rintro pre f X X' ⟨hf, hb, hk⟩ hkp
              exact ⟨hf, hb.keep hkp (hf _ hgW), hk.trans hkp (fun z hz _ => hf z hz.1)⟩
            · rintro c pre f X X' h
              exact h.elim
            · rintro pre x a' _ f X X' ⟨⟨hf, hb, hk⟩, he⟩ hkp
              exact ⟨⟨hf, hb.keep hkp (hf _ hgW), hk.trans hkp (fun z hz _ => hf z hz.1)⟩, he⟩
            · rintro z hz (h | h | h) <;> omega
            · intro z hz; omega
            · exact ⟨fun _ h => h, hBy.keep (hk3 (fun _ => True)) trivial, hk3 _⟩
          · obtain rfl : j = keys.length := by omega
            have hlen := Pl.withPlaces_length k q (texts (keys.take keys.length))
            have hst := hBy.str (1 + q)
            rw [hlen] at hst
            have hcX := hBx.cell
            rw [List.take_length] at hst
            have hfin : Pl.build each (texts keys) = Pl.withPlaces k q (texts keys) := by
              unfold Pl.build
              rw [if_neg (by rintro (h | h); omega; have := congrArg List.length h; simp [texts] at this; rw [this] at hl0; simp at hl0), ← Pl.withPlaces_eq]
              have hl : (texts keys).length = keys.length := by simp [texts]
              congr 1
              · rw [hK.out, hE.out]; unfold Pl.manyPlaces; rfl
              · rw [hQ.out, hm.out, hE.out, hl]; unfold Pl.manyBytes; rfl
            replace hfin := Lib.hid hfin
            go_wp2
            refine leaves_marks Ds _ hM (fun W' hk' => ⟨_, results_tmp rfl _ _ _, (by rw [hfin.out]; rfl), ?_⟩)
            exact ⟨hk'.os.trans hbW.os, hk'.tape.trans hbW.tape, hk'.output.trans hbW.output, Nat.le_trans hbW.size hk'.size, fun z hz => (hk'.block z (fun h => by have := hDl z h; omega) (by have := hbW.size; omega)).trans (hbW.block z hz)⟩
end Go.Proofs.Ytcfcijgnkbmlaaa
