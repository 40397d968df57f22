
/- Walks: merge.Keep's sequence. Condition: rows whose bytes fit. -/
import Derived.Test.YtiogjebekadmcaaWKeep
namespace Go.Proofs.Ytiogjebekadmcaa
open Go.RowKit Go.Shelf

attribute [local go_sem] Oper.semAt_some

/-- the variables of Keep's range -/
def KeepO (B lp : Nat) (fo : Nat → Prop) (W : World) : Prop := Boxed W B 73 (.func (.yield lp) #[] #[]) ∧ fo B
theorem keepO_abide (B lp : Nat) : AbideO (KeepO B lp) := by
  rintro fo W W' ⟨h0, f0⟩ hk
  exact ⟨hk.boxed f0 h0, f0⟩
/-- and the group at hand -/
def KeepG (B lp bx : Nat) (v : Value) (fo : Nat → Prop) (W : World) : Prop := KeepO B lp fo W ∧ Boxed W bx 22 v ∧ fo bx
theorem keepG_abide (B lp bx : Nat) (v : Value) : AbideO (KeepG B lp bx v) := by
  rintro fo W W' ⟨h0, h1, f1⟩ hk
  exact ⟨keepO_abide _ _ _ _ _ h0 hk, hk.boxed f1 h1, f1⟩

theorem keep_append {W Wc w1 : World} {v : Value} {nd : List Ver} {x : Ver} {g0 cap : Nat} {tmp : Obj} (hb : Below W.heap.size W Wc) (hown : Wc.ownsRow W.heap.size 44 4 v nd.length (vcells nd))
    (hown' : w1.ownsRow W.heap.size 44 4 (.slice (some ⟨g0, 0, none⟩) (nd.length + 1) cap) (nd.length + 1) (vcells nd ++ vcells [x])) (hgrow : (Wc.alloc tmp).grownBy w1 v.ownBlock) :
    w1.ownsRow W.heap.size 44 4 (.slice (some ⟨g0, 0, none⟩) (nd.length + 1) cap) (nd ++ [x]).length (vcells (nd ++ [x])) ∧ Below W.heap.size W w1 := by
  refine ⟨by rw [List.length_append, List.length_singleton, vcells_append]; exact hown', (hb.alloc hb.size _).grown hgrow (by have := hb.size; simp; omega) (fun k e => (hown.lt k e).1)⟩

set_option maxRecDepth 100000 in
set_option maxHeartbeats 800000 in
theorem keep1_seq (n : Nat) (hn : 4 ≤ n) (bS bF bB : Nat) (sv fv : Value) (fs : List Nat) (bot : Bool) (Gs : List (List Ver)) (w : World) (R U : Nat → Prop)
    (hGl : ∀ g ∈ Gs, g.length * 48 ≤ 140737488355328)
    (hUd : U = fun k => k = bS ∨ k = bF ∨ k = bB ∨ fv.ownBlock = some k) (hRU : ∀ k, U k → ¬ R k) (hRw : ∀ k, R k → k < w.heap.size)
    (hS : Boxed w bS 30 sv) (hF : Boxed w bF 46 fv) (hB : Boxed w bB 4 (.bool bot)) (hN : NumsAt w fv fs) (hNb : ∀ k, fv.ownBlock = some k → k < w.heap.size)
    (hmg : ∀ W : World, Calls Try.prog 38 #[sv] W fun e w' => e = .returned (.func (.func 63) #[] #[.pointer (some ⟨W.heap.size, 0, none⟩)]) ∧ w' = W.alloc (.cells #[sv] 30))
    (hgr : ∀ (W : World) (b : Nat), Keep R w W → ¬ R b → Boxed W b 30 sv → SeqK Fence.wide (n - 1) Try.prog 63 #[.pointer (some ⟨b, 0, none⟩)] ElV (fun k => R k ∨ k = b) (fun k => R k ∨ k = b) (fun ys => ys = Gs) (fun ys => ys <+: Gs) W) :
    SeqK Fence.wide n Try.prog 40 #[.pointer (some ⟨bS, 0, none⟩), .pointer (some ⟨bF, 0, none⟩), .pointer (some ⟨bB, 0, none⟩)] (ElE Ver.v) (fun k => R k ∨ U k) (fun k => R k ∨ U k)
      (fun ys => ys = Pl.keepG fs bot Gs) (fun ys => ys <+: Pl.keepG fs bot Gs) w := by
  intro lp J Jx Wi fp hkm hd hlt hJ hJx hY h0
  have h1n : 1 ≤ n := by omega
  have uS : U bS := by rw [hUd]; exact .inl rfl
  have uF : U bF := by rw [hUd]; exact .inr (.inl rfl)
  have uB : U bB := by rw [hUd]; exact .inr (.inr (.inl rfl))
  have uN : ∀ k, fv.ownBlock = some k → U k := by rw [hUd]; exact fun k h => .inr (.inr (.inr h))
  have hS1 := hkm.boxed (.inr uS) hS
  have hF1 := hkm.boxed (.inr uF) hF
  have hB1 := hkm.boxed (.inr uB) hB
  have hN1 : NumsAt Wi fv fs := hN.kept hkm.size (fun _ b hl e => hkm.block b (.inr (uN b e)) hl)
  have hUw : ∀ k, U k → k < Wi.heap.size := by
    rw [hUd]
    rintro k (h | h | h | h)
    · exact h ▸ hS1.lt
    · exact h ▸ hF1.lt
    · exact h ▸ hB1.lt
    · exact Nat.lt_of_lt_of_le (hNb k h) hkm.size
  clear hUd
  have hRW : ∀ k, R k → k < Wi.heap.size := fun k h => Nat.lt_of_lt_of_le (hRw k h) hkm.size
  have cS0 := hS1.cell
  have ltS0 := hS1.lt
  have b0 := Boxed.new Wi 73 (.func (.yield lp) #[] #[])
  have bG := Boxed.new (Wi.alloc (.cells #[.func (.yield lp) #[] #[]] 73)) 30 sv
  simp only [World.size_alloc] at b0 bG
  have b0 := b0.alloc (.cells #[sv] 30)
  have hk0 : ∀ f : Nat → Prop, Keep f Wi ((Wi.alloc (.cells #[.func (.yield lp) #[] #[]] 73)).alloc (.cells #[sv] 30)) := fun f => ((Keep.refl f Wi).alloc _).alloc _
  have hz : ((Wi.alloc (.cells #[.func (.yield lp) #[] #[]] 73)).alloc (.cells #[sv] 30)).heap.size = Wi.heap.size + 2 := by simp
  replace hmg := Lib.hid hmg
  replace hgr := Lib.hid hgr
  refine callsIn_of_wp_marks Try.func40 rfl trivial ?_ rfl
  simp only [Try.ntmps40, List.size_toArray, List.length_cons, List.length_nil, Nat.reduceAdd, Nat.reduceSub, Array.replicate_succ, Array.replicate_zero, List.push_toArray, List.append_toArray, List.nil_append, List.cons_append]
  gi_wp2_with (refine ⟨trivial, ?_⟩; gi_at_call 38; refine (callsIn_wide.2 (hmg.out _)).mono ?_; rintro e w' ⟨rfl, rfl⟩)
  generalize ((Wi.alloc (.cells #[.func (.yield lp) #[] #[]] 73)).alloc (.cells #[sv] 30)) = W0 at b0 bG hk0 hz ⊢
  have hfm : ∀ k, fp k → ¬ U k ∧ ¬ R k ∧ k < Wi.heap.size := fun k h => ⟨fun h1 => hd k h (.inr h1), fun h1 => hd k h (.inl h1), hlt k h⟩
  have hJ0 := hJ _ _ _ _ h0 (hk0 fp)
  have it0 : ItS J U W0 [] (fun k => k = Wi.heap.size) fp W0 :=
    ⟨hJ0, Keep.refl _ _, fun k h => by have := hUw k h; omega, fun k h => by omega, fun k h => by have := hlt k h; omega, fun k h h1 => by have := hlt k h1; omega, fun k h h1 => by have := hUw k h; omega, fun k h h1 => (hfm k h1).1 h⟩
  replace hB1 := (hk0 U).boxed uB hB1
  replace hF1 := (hk0 U).boxed uF hF1
  replace hN1 : NumsAt W0 fv fs := hN1.kept (hk0 U).size (fun _ b hl e => (hk0 U).block b (uN b e) hl)
  refine wpIn_rangeK (F := Fence.wide) rfl h1n (gf := 63) (lb := #[.pointer (some ⟨Wi.heap.size + 1, 0, none⟩)]) rfl trivial (enters_of Try.func63 (by kernel_rfl) rfl)
    (hgr.out W0 (Wi.heap.size + 1) ((hkm.mono (fun _ h _ => .inl h)).trans (hk0 R) (fun _ h _ => h)) (fun h => by have := hRW _ h; omega) bG) rfl
    (by rintro k (h | h); have := hRW k h; omega; omega) (fun _ h => h)
    (fun pre fp W => It J U W0 (KeepO Wi.heap.size lp) (Pl.keepG fs bot pre) fp W)
    (fun c pre fp W => c = .ret ∧ ∃ out, out <+: Pl.keepG fs bot Gs ∧ EndSt Jx U W0 out fp W)
    (fun pre x a' fp W => ∃ v' bx, It J U W0 (WithEl (KeepG Wi.heap.size lp bx v') ElV x v') (Pl.keepG fs bot pre) fp W ∧ a' = { tmps := #[.func (.yield lp) #[] #[], .pointer (some ⟨bS, 0, none⟩), .pointer (some ⟨bF, 0, none⟩), .pointer (some ⟨bB, 0, none⟩), .pointer (some ⟨Wi.heap.size, 0, none⟩), .pointer (some ⟨bx, 0, none⟩), undef, undef, undef, undef, undef, sv, .func (.func 63) #[] #[.pointer (some ⟨Wi.heap.size + 1, 0, none⟩)], v', undef, undef, undef, undef, undef, undef, undef, undef, undef, undef, undef, undef, undef, undef, undef, undef, undef, undef, undef, undef, undef, undef, undef, undef, undef, undef, undef, undef, undef, undef, undef, undef, undef, undef, undef, undef, undef, undef, undef, undef, undef, undef, undef, undef, undef, undef, undef, undef, undef, undef], defers := [] })
    ?_ ?_ ?_ (uni U (fun k => k = Wi.heap.size) fp) ?_ ?_ ?_ ?assign ?body ?done ?stop
  case assign =>
    intro l' pre x v2 ef fp1 W K hI hlt1 hel hef _ _ hpre hK
    clear hY
    obtain ⟨fo, fj, rfl, hO, it⟩ := hI
    have it1 := it.take (ef := ef) (fun k h => (hef k h).1) (fun k h => (hef k h).2.2)
    obtain ⟨ao, cp, hv2⟩ : ∃ ao cp, v2 = .slice ao x.length cp := by
      cases x with
      | nil => exact absurd rfl hel.2.1
      | cons y r => obtain ⟨b, cap, e, _⟩ := own_cons hel.1; exact ⟨_, _, e⟩
    subst hv2
    gi_wp2
    obtain ⟨it2, st⟩ := it1.step hJ (Step.alloc it1.olt (.cells #[.slice ao x.length cp] 22))
    refine hK _ _ _ (st.more (fun k h => ?_) (fun k h => h)) ⟨_, W.heap.size, ⟨_, fj, rfl, ⟨fun k => fo k ∨ k = W.heap.size, ef, fun k => ?_, fun k h h1 => ?_, ⟨?_, Boxed.new _ _ _, .inr rfl⟩, elV_abide _ _ _ _ _ hel ((Keep.refl _ W).alloc _)⟩, it2⟩, rfl⟩
    · rcases h with h | (h | h) | h
      · exact .inl (.inl h)
      · exact .inl (.inr (.inl h))
      · exact .inr h
      · exact .inl (.inr (.inr h))
    · constructor
      · rintro ((h | h) | h)
        · exact .inl (.inl h)
        · exact .inr h
        · exact .inl (.inr h)
      · rintro ((h | h) | h)
        · exact .inl (.inl h)
        · exact .inr h
        · exact .inl (.inr h)
    · rcases h with h | h
      · exact (hef k h1).1 (.inr (.inl h))
      · have := (hef k h1).2.2; omega
    · exact ⟨hO.1.alloc _, .inl hO.2⟩
  case body =>
    rintro l' pre x a' fp1 W ⟨v2, bx, ⟨fo, fj, rfl, ⟨f1, ef, hs, hde, hO, hel⟩, it⟩, rfl⟩ hlt1 hnw hkR hpre
    have HK := (hk0 (fun k => R k ∨ U k)).trans ((hkR.mono (fun k h _ => .inl h : ∀ k, R k → k < W0.heap.size → R k ∨ k = Wi.heap.size + 1)).or it.keep) (fun _ h _ => h)
    have hdj : ∀ k, R k ∨ U k → ¬ fj k := fun k h h1 => by
      rcases h with h | h
      · rcases hnw k (.inr (.inr h1)) with (h3 | h3 | h3) | h3
        · exact hRU k h3 h
        · have := hRW k h; omega
        · exact (hfm k h3).2.1 h
        · have := hRW k h; omega
      · exact it.uj k h h1
    have hxl : x.length * 48 ≤ 140737488355328 := hGl x (by obtain ⟨t, rfl⟩ := hpre; simp)
    have hxk := Lib.hid (Pl.keepG_snoc fs bot pre x)
    have hpt := Lib.hid (Pl.keepG_prefix (fs := fs) (bot := bot) hpre)
    have hBw := it.keep.boxed uB hB1
    have hFw := it.keep.boxed uF hF1
    have hNw : NumsAt W fv fs := hN1.kept it.keep.size (fun _ b hl e => it.keep.block b (uN b e) hl)
    have hFv : ∃ ao cp, fv = .slice ao fs.length cp := by obtain ⟨ao, cp, e, _⟩ := hNw; exact ⟨_, _, e⟩
    clear hRU hRw hS hkm hd h0 hS1 cS0 ltS0 hz bG hJ0 it0 hB1 hF1 hN1 hmg hgr hB hF hN hGl hpre b0 hkR hnw hNb
    cases x with
    | nil => exact absurd rfl hel.2.1
    | cons y r =>
      obtain ⟨b, cap, rfl, _, hbl⟩ := own_cons hel.1
      have hrow : RowIn W b 0 (y :: r) := by
        obtain ⟨_, _, e, _, _, hr⟩ := own_vers hel.1
        obtain ⟨_, off, e2, hr⟩ := hr (by simp)
        cases e; cases e2; exact hr
      have c5 := hO.2.1.cell
      simp only [List.length_cons] at hxl
      obtain ⟨aof, cpf, hfv⟩ := hFv
      gi_wp2
      gi_loopw [6, 7, 8, 16] (fun v6 _ _ i wr => ∃ k : Nat, k ≤ r.length + 1 ∧ i = .int .i64 k ∧ wr.ownsRow W.heap.size 44 4 v6 (Pl.needN fs (y :: r) k).length (vcells (Pl.needN fs (y :: r) k)) ∧ Below W.heap.size W wr) (fun _ _ _ i _ => r.length + 1 - (intOf i).toNat)
      case atStart => exact ⟨0, by omega, rfl, World.ownsRow_nil _ _ _ _, Below.refl _ _⟩
      case round =>
        obtain ⟨k, hk, rfl, hown, hbl0⟩ := hrel
        have hsz := hbl0.size
        have cx := (boxed_below hbl0 hO.2.1).cell
        have cf := (boxed_below hbl0 hFw).cell
        have hrk := hrow.below hbl0
        have hnk : NumsAt wr fv fs := hNw.below hbl0
        have hbx := (boxed_below hbl0 hO.2.1).lt
        have hbf := (boxed_below hbl0 hFw).lt
        by_cases h1 : k < r.length + 1
        · have hnl := Pl.needN_length fs (y :: r) k
          obtain ⟨x0, x1, x2, x3⟩ := hrk.2 k h1
          simp only [Nat.zero_add] at x0 x1 x2 x3
          cases k with
          | zero =>
            have hsn := Lib.hid (Pl.needN_yes (fs := fs) (g := y :: r) (n := 0) h1 rfl)
            generalize (y :: r)[0] = z at *
            clear hrk hnk cf
            gi_wp2
            refine ⟨trivial, ?_⟩
            gi_wp2_with (gi_at_builtin; go_must (refine wpListIn_app1 (by rfl) _ _ 22 (by rfl) W.heap.size 44 (.agg #[.string .empty, .int .u64 0, .bool false, .string .empty]) 4 48 Try.underlying22 info_version rfl (by decide) u6 (Pl.needN fs (y :: r) (0)).length (vcells (Pl.needN fs (y :: r) (0))) ((wr.alloc (.cells #[.int .i64 0] 3)).alloc (.cells #[.string z.key, .int .u64 (z.seq : Int), .bool z.del, .string z.val] 44)) ((hown.alloc _).alloc _) (by simp; omega) (by rfl) #[.string z.key, .int .u64 (z.seq : Int), .bool z.del, .string z.val] 44 (by simp; rfl) rfl (by simp [Value.oneCell']) (by omega) (by decide) ?_; intro g0 cap0 w1 hown' hgrow hat hg0; have ⟨q1, q2⟩ := keep_append (x := z) ((hbl0.alloc hsz _).alloc (by simp; omega) _) ((hown.alloc _).alloc _) hown' hgrow))
            go_roundw
            case rel => exact ⟨0 + 1, by omega, by go_num, by rw [hsn.out]; exact q1, q2⟩
            case measure => simp [intOf]
          | succ j =>
            have hj1 : j < r.length + 1 := by omega
            obtain ⟨_, p1, _, _⟩ := hrk.2 j hj1
            simp only [Nat.zero_add] at p1
            have hst : ∀ B, Pl.needAt fs ((y :: r)[j]'hj1) (y :: r)[j + 1] = B → Pl.needI fs (y :: r) (j + 1) = B := fun B h => (Pl.needI_succ (fs := fs) (g := y :: r) (j := j) h1).trans h
            have hsn : Pl.needAt fs ((y :: r)[j]'hj1) (y :: r)[j + 1] = true → _ := fun h => Pl.needN_yes (fs := fs) (g := y :: r) (n := j + 1) h1 (hst _ h)
            have hsm : Pl.needAt fs ((y :: r)[j]'hj1) (y :: r)[j + 1] = false → _ := fun h => Pl.needN_no (fs := fs) (g := y :: r) (n := j + 1) (hst _ h)
            clear hst
            generalize (y :: r)[j]'hj1 = p at *
            generalize (y :: r)[j + 1] = z at *
            have hCF : Calls Try.prog 41 #[fv, .func (.func 42) #[] #[.pointer (some ⟨wr.heap.size + 1, 0, none⟩), .pointer (some ⟨bx, 0, none⟩), .pointer (some ⟨wr.heap.size, 0, none⟩)]] ((wr.alloc (.cells #[.int .i64 ((j : Int) + 1)] 3)).alloc (.cells #[.string z.key, .int .u64 (z.seq : Int), .bool z.del, .string z.val] 44)) fun e w' => e = .returned (.bool (Pl.needAt fs p z)) ∧ ((wr.alloc (.cells #[.int .i64 ((j : Int) + 1)] 3)).alloc (.cells #[.string z.key, .int .u64 (z.seq : Int), .bool z.del, .string z.val] 44)) = w' := by
              obtain ⟨Wc, hWc⟩ : ∃ Wc, Wc = ((wr.alloc (.cells #[.int .i64 ((j : Int) + 1)] 3)).alloc (.cells #[.string z.key, .int .u64 (z.seq : Int), .bool z.del, .string z.val] 44)) := ⟨_, rfl⟩
              rw [← hWc]
              have hB : Below wr.heap.size wr Wc := by rw [hWc]; exact ((Below.refl _ wr).alloc (Nat.le_refl _) _).alloc (by simp) _
              have hi := ((Boxed.new wr 3 (.int .i64 ((j : Int) + 1))).alloc (.cells #[.string z.key, .int .u64 (z.seq : Int), .bool z.del, .string z.val] 44)).cell
              have hv : Wc.cell? ⟨wr.heap.size + 1, 1, none⟩ = some (.int .u64 (z.seq : Int)) := by
                rw [hWc]
                have := World.cell?_alloc_mark (wr.alloc (.cells #[.int .i64 ((j : Int) + 1)] 3)) #[.string z.key, .int .u64 (z.seq : Int), .bool z.del, .string z.val] 44 (0, 0) 1
                rw [World.size_alloc] at this
                exact this
              rw [← hWc] at hi
              have hg := (World.cell?_of_block (a := ⟨bx, 0, none⟩) (hB.block bx hbx)).trans cx
              have hp := (World.cell?_of_block (a := ⟨b, j * 4 + 1, none⟩) (hB.block b hrk.1)).trans p1
              have hr1 : r.length + 1 ≤ 9223372036854775807 := by omega
              have := contains_any 42 #[.pointer (some ⟨wr.heap.size + 1, 0, none⟩), .pointer (some ⟨bx, 0, none⟩), .pointer (some ⟨wr.heap.size, 0, none⟩)] (enters_of Try.func42 (by kernel_rfl) rfl) (fun f => decide (z.seq ≤ f) && decide (f < p.seq)) fv fs Wc (hnk.below hB)
                (fun f => pred_any f (wr.heap.size + 1) bx wr.heap.size z p b cap j Wc (r.length + 1) hv hg hi h1 hr1 hp)
              exact this
            subst hfv
            clear hrk hnk hNw
            cases hNA : Pl.needAt fs p z
            · rw [hNA] at hCF
              have hsm := Lib.hid (hsm hNA)
              replace hCF := Lib.hid hCF
              clear hsn hNA
              gi_wp2
              refine ⟨trivial, fun _ => by omega, (CallsIn.inRound l' (callsIn_wide.2 hCF.out)).mono ?_⟩
              rintro e w' ⟨rfl, rfl⟩
              gi_wp2
              go_roundw
              case rel => exact ⟨j + 1 + 1, by omega, by go_num, by rw [hsm.out]; exact (hown.alloc _).alloc _, (hbl0.alloc hsz _).alloc (by simp; omega) _⟩
              case measure => simp [intOf]; omega
            · rw [hNA] at hCF
              have hsn := Lib.hid (hsn hNA)
              replace hCF := Lib.hid hCF
              clear hsm hNA
              gi_wp2
              refine ⟨trivial, fun _ => by omega, (CallsIn.inRound l' (callsIn_wide.2 hCF.out)).mono ?_⟩
              rintro e w' ⟨rfl, rfl⟩
              gi_wp2_with (gi_at_builtin; go_must (refine wpListIn_app1 (by rfl) _ _ 22 (by rfl) W.heap.size 44 (.agg #[.string .empty, .int .u64 0, .bool false, .string .empty]) 4 48 Try.underlying22 info_version rfl (by decide) u6 (Pl.needN fs (y :: r) (j + 1)).length (vcells (Pl.needN fs (y :: r) (j + 1))) ((wr.alloc (.cells #[.int .i64 ((j : Int) + 1)] 3)).alloc (.cells #[.string z.key, .int .u64 (z.seq : Int), .bool z.del, .string z.val] 44)) ((hown.alloc _).alloc _) (by simp; omega) (by rfl) #[.string z.key, .int .u64 (z.seq : Int), .bool z.del, .string z.val] 44 (by simp; rfl) rfl (by simp [Value.oneCell']) (by omega) (by decide) ?_; intro g0 cap0 w1 hown' hgrow hat hg0; have ⟨q1, q2⟩ := keep_append (x := z) ((hbl0.alloc hsz _).alloc (by simp; omega) _) ((hown.alloc _).alloc _) hown' hgrow))
              go_roundw
              case rel => exact ⟨j + 1 + 1, by omega, by go_num, by rw [hsn.out]; exact q1, q2⟩
              case measure => simp [intOf]; omega
        · obtain rfl : k = r.length + 1 := by omega
          have hne := Pl.needN_ne (fs := fs) (g := y :: r) (n := r.length) (by simp)
          have hkd : Pl.keep1 fs bot (y :: r) = Pl.trim bot (Pl.needN fs (y :: r) (r.length + 1)) := rfl
          generalize Pl.needN fs (y :: r) (r.length + 1) = nd at *
          have hpt' : Hid (∀ n, Pl.keepG fs bot pre ++ (Pl.keep1 fs bot (y :: r)).take n <+: Pl.keepG fs bot Gs) := fun n => Pl.part_of hpt.out hxk.out n
          cases nd with
          | nil => simp at hne
          | cons a nt =>
            obtain ⟨gb, capn, rfl, _, hgb⟩ := own_cons hown
            have hgl := (hown.lt gb rfl).1
            have hnr : RowIn wr gb 0 (a :: nt) := by
              obtain ⟨_, _, e, _, _, hr⟩ := own_vers hown
              obtain ⟨_, off, e2, hr⟩ := hr (by simp)
              cases e; cases e2; exact hr
            have hnb : nt.length + 1 ≤ capn ∧ capn ≤ 9223372036854775807 := by
              obtain ⟨_, _, e, h1, h2, _⟩ := own_vers hown
              cases e; exact ⟨h1, h2⟩
            have bY := boxed_below hbl0 hO.1.1
            have cb := (boxed_below hbl0 hBw).cell
            obtain ⟨fq, hfq⟩ : ∃ fq : Nat → Prop, fq = fun k => k = Wi.heap.size ∨ k = gb := ⟨_, rfl⟩
            obtain ⟨itw, stw⟩ := it.step hJ (fo' := fq) (W' := wr) ⟨Keep.of_below hbl0 (fun k _ h => h), by rw [hfq]; exact fun k h => h.elim (fun e => .inl ((hs k).2 (.inl (e ▸ hO.1.2)))) (fun e => .inr (by omega)), by rw [hfq]; exact fun k h => h.elim (fun e => e ▸ bY.lt) (fun e => e ▸ hgb)⟩
            have fqB : fq Wi.heap.size := by rw [hfq]; exact .inl rfl
            have fqg : fq gb := by rw [hfq]; exact .inr rfl
            have HKw := HK.trans (Keep.of_below hbl0 (fun k _ h => h) : Keep (fun k => R k ∨ U k) W wr) (fun _ h _ => h)
            have hRl0 : ∀ k, R k ∨ U k → k < Wi.heap.size := fun k h => h.elim (hRW k) (hUw k)
            replace hkd := Lib.hid hkd
            clear hown cx cf hrk hnk hbx hbf hNw hFw hBw hrow c5 hbl hbl0 HK hO hel hde it hxl hs hsz hfv hgl hfq hpt hgb
            gi_wp2
            gi_loopw [6] (fun v6 wq => ∃ m : Nat, m ≤ nt.length + 1 ∧ v6 = .slice (some ⟨gb, 0, none⟩) m capn ∧ Hid (Pl.trimN bot (a :: nt) m = Pl.trim bot (a :: nt)) ∧ wq = wr) (fun v6 _ => match v6 with | .slice _ m _ => m | _ => 0)
            case atStart => exact ⟨nt.length + 1, by omega, rfl, (by show _ = _; rfl), rfl⟩
            case round =>
              obtain ⟨m, hm, rfl, htr, rfl⟩ := hrel
              have ways : (bot = true ∧ ∃ n, ∃ hn : n < nt.length + 1, m = n + 1 ∧ (a :: nt)[n].del = true) ∨ (bot = false) ∨ (bot = true ∧ m = 0) ∨ (bot = true ∧ ∃ n, ∃ hn : n < nt.length + 1, m = n + 1 ∧ (a :: nt)[n].del = false) := by
                cases bot
                · exact .inr (.inl rfl)
                · cases m with
                  | zero => exact .inr (.inr (.inl ⟨rfl, rfl⟩))
                  | succ n =>
                    have hn : n < nt.length + 1 := by omega
                    cases hd : (a :: nt)[n].del
                    · exact .inr (.inr (.inr ⟨rfl, n, hn, rfl, hd⟩))
                    · exact .inl ⟨rfl, n, hn, rfl, hd⟩
              rcases ways with ⟨rfl, q, hq, rfl, hdl⟩ | hw
              · obtain ⟨_, _, p2, _⟩ := hnr.2 q hq
                simp only [Nat.zero_add, hdl] at p2
                have htr' := Lib.hid ((Pl.trimN_on (bot := true) (l := a :: nt) hq rfl hdl).symm.trans htr.out)
                clear htr hnr hkd hpt' bY HKw itw stw hY hdl
                gi_wp2
                go_roundw
                case rel => exact ⟨q, by omega, by go_num, htr', trivial⟩
                case measure => simp
              · have hkt : Pl.keep1 fs bot (y :: r) = (a :: nt).take m := by
                  rw [hkd.out, ← htr.out]
                  refine Pl.trimN_end (by simp; omega) ?_
                  rcases hw with rfl | ⟨rfl, rfl⟩ | ⟨rfl, q, hq, rfl, hdl⟩
                  · exact .inr (.inl rfl)
                  · exact .inl rfl
                  · exact .inr (.inr ⟨q, hq, rfl, hdl⟩)
                replace hpt' := hpt'.out
                rw [hkt] at hpt'
                have hxt := hxk.out
                rw [hkt] at hxt
                replace hxt := Lib.hid hxt
                replace hpt' := Lib.hid hpt'
                clear hkt hkd htr hxk
                rcases hw with rfl | ⟨rfl, rfl⟩ | ⟨rfl, q, hq, rfl, hdl⟩
                · gi_wp2
                  gi_loopw [10, 55] (fun _ i wq => ∃ (k : Nat) (fj' : Nat → Prop), k ≤ m ∧ i = .int .i64 k ∧ ItS J U W0 (Pl.keepG fs false pre ++ ((a :: nt).take m).take k) fq fj' wq ∧ RowIn wq gb 0 (a :: nt) ∧ Boxed wq Wi.heap.size 73 (.func (.yield lp) #[] #[]) ∧ Step (uni U fq fj) (uni U fq fj') wr wq ∧ Keep (fun k => R k ∨ U k) Wi wq ∧ ∀ k, R k ∨ U k → ¬ fj' k) (fun _ i _ => m - (intOf i).toNat)
                  case atStart => exact ⟨0, fj, by omega, rfl, by rw [List.take_zero, List.append_nil]; exact itw, hnr, bY, Step.refl itw.lt, HKw, hdj⟩
                  case round =>
                    obtain ⟨k, fj', hk, rfl, it', hr', bY', st', HK', hdj'⟩ := hrel
                    have ltY := bY'.lt
                    have cY := bY'.cell
                    have hRl : ∀ k, R k ∨ U k → k < wr.heap.size := fun k h => Nat.lt_of_lt_of_le (hRl0 k h) HK'.size
                    clear itw hnr bY HKw hdj
                    by_cases h1 : k < m
                    · have h2 : k < nt.length + 1 := by omega
                      obtain ⟨x0, x1, x2, x3⟩ := hr'.2 k h2
                      simp only [Nat.zero_add] at x0 x1 x2 x3
                      have htk := Pl.take_two (l := a :: nt) h1 h2
                      have hp1 := hpt'.out (k + 1)
                      rw [htk, ← List.append_assoc] at hp1
                      replace htk := Lib.hid htk
                      generalize (a :: nt)[k] = z at *
                      obtain ⟨Wa, hWa⟩ : ∃ Wa, Wa = wr.alloc (.cells #[.string z.key, .int .u64 (z.seq : Int), .bool z.del, .string z.val] 44) := ⟨_, rfl⟩
                      have hka : ∀ f : Nat → Prop, Keep f wr Wa := fun f => by rw [hWa]; exact (Keep.refl f wr).alloc _
                      have hsa : wr.heap.size < Wa.heap.size := by rw [hWa]; simp
                      have it1 := it'.abide hJ (hka _)
                      have sta : Step (uni U fq fj') (uni U fq fj') wr Wa := ⟨hka _, fun _ h => .inl h, it1.lt⟩
                      have cYa := ((hka _).boxed fqB bY').cell
                      obtain ⟨fn, tmps, assign, body, hy, hRd⟩ := hY _ z _ (fun _ => False) fj' Wa it1.j it1.jlt ⟨rfl, fun _ h => h⟩ (fun _ h => h.elim) (HK'.trans (hka _) (fun _ h _ => h)) hp1
                      unfold Ver.v at hy
                      subst hWa
                      clear hY
                      gi_wp2
                      refine ⟨fun h => (by cases h), (roundIn_wide hRd).mono ?_⟩
                      rintro e W3 (⟨rfl, fj3, hJ3, st3⟩ | ⟨rfl, fj3, hJ3, st3⟩)
                      · clear hy
                        replace st3 := st3.bare
                        obtain ⟨it5, k5, st6⟩ := it1.yieldV st3 hJ3
                        have bY5 := k5.boxed fqB ((hka _).boxed fqB bY')
                        have hr5 : RowIn W3 gb 0 (a :: nt) := hr'.kept ((hka fq).trans k5 (fun _ h _ => h)).size (((hka fq).trans k5 (fun _ h _ => h)).block gb fqg hr'.1)
                        have st7 := (st'.trans sta).trans st6
                        have hk7 := (HK'.trans (hka _) (fun _ h _ => h) : Keep (fun k => R k ∨ U k) Wi _).trans st3.keep (fun k h _ => hdj' k h)
                        have hd7 : ∀ k, R k ∨ U k → ¬ fj3 k := fun k h => st3.other (hdj' k h) (Nat.lt_trans (hRl k h) hsa)
                        clear it1 it' hr' st6 st3 sta hka cYa cY x0 x1 x2 x3 bY' st' HK' hdj' hRl
                        gi_wp2
                        go_roundw
                        case rel => exact ⟨k + 1, fj3, by omega, by go_num, by rw [htk.out, ← List.append_assoc]; exact it5, hr5, bY5, st7, hk7, hd7⟩
                        case measure => simp [intOf]; omega
                      · clear hy
                        replace st3 := st3.bare
                        obtain ⟨it5, k5, st6⟩ := it1.yieldV st3 hJ3
                        have st7 := stw.trans ((st'.trans sta).trans st6)
                        gi_wp2
                        exact ⟨_, ⟨rfl, _, hp1, it5.toEnd⟩, st7⟩
                    · have hkM : k = m := by omega
                      rw [hkM, List.take_take, Nat.min_self] at it'
                      subst hkM
                      have st7 := stw.trans st'
                      clear hY
                      gi_wp2
                      exact ⟨_, ⟨fq, fj', rfl, ⟨bY', fqB⟩, by rw [hxt.out]; exact it'⟩, st7⟩

                · gi_wp2
                  gi_loopw [10, 55] (fun _ i wq => ∃ (k : Nat) (fj' : Nat → Prop), k ≤ 0 ∧ i = .int .i64 k ∧ ItS J U W0 (Pl.keepG fs true pre ++ ((a :: nt).take 0).take k) fq fj' wq ∧ RowIn wq gb 0 (a :: nt) ∧ Boxed wq Wi.heap.size 73 (.func (.yield lp) #[] #[]) ∧ Step (uni U fq fj) (uni U fq fj') wr wq ∧ Keep (fun k => R k ∨ U k) Wi wq ∧ ∀ k, R k ∨ U k → ¬ fj' k) (fun _ i _ => 0 - (intOf i).toNat)
                  case atStart => exact ⟨0, fj, by omega, rfl, by rw [List.take_zero, List.append_nil]; exact itw, hnr, bY, Step.refl itw.lt, HKw, hdj⟩
                  case round =>
                    obtain ⟨k, fj', hk, rfl, it', hr', bY', st', HK', hdj'⟩ := hrel
                    have ltY := bY'.lt
                    have cY := bY'.cell
                    have hRl : ∀ k, R k ∨ U k → k < wr.heap.size := fun k h => Nat.lt_of_lt_of_le (hRl0 k h) HK'.size
                    clear itw hnr bY HKw hdj
                    have hkM : k = 0 := by omega
                    rw [hkM, List.take_take, Nat.min_self] at it'
                    subst hkM
                    have st7 := stw.trans st'
                    clear hY
                    gi_wp2
                    exact ⟨_, ⟨fq, fj', rfl, ⟨bY', fqB⟩, by rw [hxt.out]; exact it'⟩, st7⟩

                · obtain ⟨_, _, p2, _⟩ := hnr.2 q hq
                  simp only [Nat.zero_add, hdl] at p2
                  clear hdl
                  gi_wp2
                  clear p2
                  rw [show ((q : Int) + 1) = ((q + 1 : Nat) : Int) from by simp]
                  generalize q + 1 = m at *
                  gi_loopw [10, 55] (fun _ i wq => ∃ (k : Nat) (fj' : Nat → Prop), k ≤ m ∧ i = .int .i64 k ∧ ItS J U W0 (Pl.keepG fs true pre ++ ((a :: nt).take m).take k) fq fj' wq ∧ RowIn wq gb 0 (a :: nt) ∧ Boxed wq Wi.heap.size 73 (.func (.yield lp) #[] #[]) ∧ Step (uni U fq fj) (uni U fq fj') wr wq ∧ Keep (fun k => R k ∨ U k) Wi wq ∧ ∀ k, R k ∨ U k → ¬ fj' k) (fun _ i _ => m - (intOf i).toNat)
                  case atStart => exact ⟨0, fj, by omega, rfl, by rw [List.take_zero, List.append_nil]; exact itw, hnr, bY, Step.refl itw.lt, HKw, hdj⟩
                  case round =>
                    obtain ⟨k, fj', hk, rfl, it', hr', bY', st', HK', hdj'⟩ := hrel
                    have ltY := bY'.lt
                    have cY := bY'.cell
                    have hRl : ∀ k, R k ∨ U k → k < wr.heap.size := fun k h => Nat.lt_of_lt_of_le (hRl0 k h) HK'.size
                    clear itw hnr bY HKw hdj
                    by_cases h1 : k < m
                    · have h2 : k < nt.length + 1 := by omega
                      obtain ⟨x0, x1, x2, x3⟩ := hr'.2 k h2
                      simp only [Nat.zero_add] at x0 x1 x2 x3
                      have htk := Pl.take_two (l := a :: nt) h1 h2
                      have hp1 := hpt'.out (k + 1)
                      rw [htk, ← List.append_assoc] at hp1
                      replace htk := Lib.hid htk
                      generalize (a :: nt)[k] = z at *
                      obtain ⟨Wa, hWa⟩ : ∃ Wa, Wa = wr.alloc (.cells #[.string z.key, .int .u64 (z.seq : Int), .bool z.del, .string z.val] 44) := ⟨_, rfl⟩
                      have hka : ∀ f : Nat → Prop, Keep f wr Wa := fun f => by rw [hWa]; exact (Keep.refl f wr).alloc _
                      have hsa : wr.heap.size < Wa.heap.size := by rw [hWa]; simp
                      have it1 := it'.abide hJ (hka _)
                      have sta : Step (uni U fq fj') (uni U fq fj') wr Wa := ⟨hka _, fun _ h => .inl h, it1.lt⟩
                      have cYa := ((hka _).boxed fqB bY').cell
                      obtain ⟨fn, tmps, assign, body, hy, hRd⟩ := hY _ z _ (fun _ => False) fj' Wa it1.j it1.jlt ⟨rfl, fun _ h => h⟩ (fun _ h => h.elim) (HK'.trans (hka _) (fun _ h _ => h)) hp1
                      unfold Ver.v at hy
                      subst hWa
                      clear hY
                      gi_wp2
                      refine ⟨fun h => (by cases h), (roundIn_wide hRd).mono ?_⟩
                      rintro e W3 (⟨rfl, fj3, hJ3, st3⟩ | ⟨rfl, fj3, hJ3, st3⟩)
                      · clear hy
                        replace st3 := st3.bare
                        obtain ⟨it5, k5, st6⟩ := it1.yieldV st3 hJ3
                        have bY5 := k5.boxed fqB ((hka _).boxed fqB bY')
                        have hr5 : RowIn W3 gb 0 (a :: nt) := hr'.kept ((hka fq).trans k5 (fun _ h _ => h)).size (((hka fq).trans k5 (fun _ h _ => h)).block gb fqg hr'.1)
                        have st7 := (st'.trans sta).trans st6
                        have hk7 := (HK'.trans (hka _) (fun _ h _ => h) : Keep (fun k => R k ∨ U k) Wi _).trans st3.keep (fun k h _ => hdj' k h)
                        have hd7 : ∀ k, R k ∨ U k → ¬ fj3 k := fun k h => st3.other (hdj' k h) (Nat.lt_trans (hRl k h) hsa)
                        clear it1 it' hr' st6 st3 sta hka cYa cY x0 x1 x2 x3 bY' st' HK' hdj' hRl
                        gi_wp2
                        go_roundw
                        case rel => exact ⟨_, _, _, _, _, _, _, _, _, _, ⟨k + 1, fj3, by omega, rfl, by rw [htk.out, ← List.append_assoc]; exact it5, hr5, bY5, st7, hk7, hd7⟩, by simp; exact ⟨rfl, rfl, rfl, rfl, rfl, rfl, rfl, rfl, rfl⟩⟩
                        case measure => simp [intOf]; omega
                      · clear hy
                        replace st3 := st3.bare
                        obtain ⟨it5, k5, st6⟩ := it1.yieldV st3 hJ3
                        have st7 := stw.trans ((st'.trans sta).trans st6)
                        gi_wp2
                        exact ⟨_, ⟨rfl, _, hp1, it5.toEnd⟩, st7⟩
                    · have hkM : k = m := by omega
                      rw [hkM, List.take_take, Nat.min_self] at it'
                      subst hkM
                      have st7 := stw.trans st'
                      clear hY
                      gi_wp2
                      exact ⟨_, ⟨fq, fj', rfl, ⟨bY', fqB⟩, by rw [hxt.out]; exact it'⟩, st7⟩

  case done =>
    rintro D ys fp2 W2 hD hnD hnew hlt2 hkT rfl ⟨fo, fj, rfl, hO, it⟩ hK
    have hne : ∀ k, uni U fo fj k → U k ∨ fp k ∨ Wi.heap.size ≤ k := fun k h => by
      rcases hnew k h with (h | h | h) | h
      · exact .inl h
      · right; right; omega
      · exact .inr (.inl h)
      · right; right; omega
    replace hkT : Keep R W0 W2 := hkT.mono (fun k h _ => .inl h)
    obtain ⟨fj2, hj, hk, hn2, hl2⟩ := it.toEnd.finish hJ hk0 hRW hUw hkT (by omega) hnD hne
    clear hY
    gi_wp2
    refine ⟨by simp, .inl ⟨_, _, rfl, run_takeDeferred hK, ?_⟩⟩
    refine ⟨_, results_none rfl _ _ _, ?_⟩
    exact SeqEnd.all hk hn2 hl2 _ rfl hj
  case stop =>
    rintro D c pre fp2 W2 hD hnD hnew hlt2 hkT hpre ⟨rfl, out, ho, h⟩ hK
    have hne : ∀ k, fp2 k → U k ∨ fp k ∨ Wi.heap.size ≤ k := fun k h => by
      rcases hnew k h with (h | h | h) | h
      · exact .inl h
      · right; right; omega
      · exact .inr (.inl h)
      · right; right; omega
    replace hkT : Keep R W0 W2 := hkT.mono (fun k h _ => .inl h)
    clear hY
    gi_wp2
    refine ⟨by simp, .inl ⟨_, _, rfl, run_takeDeferred hK, ?_⟩⟩
    refine ⟨_, results_none rfl _ _ _, ?_⟩
    obtain ⟨fj, hj, hk, hn2, hl2⟩ := h.finish hJx hk0 hRW hUw hkT (by omega) hnD hne
    exact SeqEnd.part hk hn2 hl2 _ ho hj
  · rintro pre fp W W' h hk
    exact h.abide (keepO_abide _ _) hJ hk
  · rintro c pre fp W W' ⟨hc, out, ho, h⟩ hkp
    exact ⟨hc, out, ho, h.abide hJx hkp⟩
  · rintro pre x a' _ fp W W' ⟨v', bx, h, he⟩ hk
    exact ⟨v', bx, h.abide (withEl_abide (keepG_abide _ _ _ _) elV_abide _ _) hJ hk, he⟩
  · rintro k (h | h | h) h1
    · rcases h1 with h1 | h1
      · exact hRU k h h1
      · have := hUw k h; omega
    · rcases h1 with h1 | h1
      · have := hRW k h1; omega
      · omega
    · rcases h1 with h1 | h1
      · exact (hfm k h).2.1 h1
      · have := hlt k h; omega
  · exact it0.lt
  · exact ⟨_, _, rfl, ⟨b0, rfl⟩, it0⟩
end Go.Proofs.Ytiogjebekadmcaa
