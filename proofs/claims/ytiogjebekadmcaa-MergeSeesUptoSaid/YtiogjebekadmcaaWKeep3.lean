
/- Walks: what merge.Keep's sequences are listed as; a list's head. Condition: rows whose bytes fit. -/
import Derived.Test.YtiogjebekadmcaaWKeep2
import Derived.Test.YtiogjebekadmcaaPlainKp2
import Derived.Test.YtiogjebekadmcaaWSame
namespace Go.Proofs.Ytiogjebekadmcaa
open Go.RowKit Go.Shelf

/-- elements by value: the plain contract -/
theorem SeqK.toF {F : Fence} {n : Nat} {P : Program} {g : Nat} {lb : Array Value} {mfp kfp : Nat → Prop} {L : List Ver} {N : Nat} {w : World} (h : SeqK F n P g lb (ElE Ver.v) mfp kfp (fun ys => ys = L) (fun ys => ys <+: L) w) (hN : L.length ≤ N) :
    SeqF F n P g lb encV mfp kfp (fun ys => ys = L) (fun ys => ys <+: L) N w := by
  intro l J Jx W fp hk hd hlt hJ hJx hY h0
  refine h l J Jx W fp hk hd hlt hJ hJx ?_ h0
  rintro pre x v ef fp1 W1 hj hl ⟨rfl, he⟩ _ _ hp
  have hlen : pre.length < N := by have := hp.length_le; simp at this; omega
  obtain ⟨fn, tmps, assign, body, hy, hRd⟩ := hY pre x fp1 W1 hj hl hlen
  refine ⟨fn, tmps, assign, body, hy, hRd.mono ?_⟩
  rintro e W3 (⟨rfl, fj3, hJ3, st3⟩ | ⟨rfl, fj3, hJ3, st3⟩)
  · exact .inl ⟨rfl, fj3, hJ3, st3.more (fun _ h => .inl h) (fun _ h => h)⟩
  · exact .inr ⟨rfl, fj3, hJ3, st3.more (fun _ h => .inl h) (fun _ h => h)⟩

set_option maxRecDepth 100000 in
set_option maxHeartbeats 800000 in
theorem groups1_nil (n : Nat) (b : Nat) (w : World) (T : Nat → Prop) (hT : T b) (hb : Boxed w b 30 .nilFunc) :
    SeqK Fence.wide n Try.prog 63 #[.pointer (some ⟨b, 0, none⟩)] ElV T T (fun ys => ys = []) (fun ys => ys <+: []) w := by
  intro lp J Jx W fp hkm hd hlt hJ hJx hY h0
  have hb1 := hkm.boxed hT hb
  have c0 := (hb1.alloc (.cells #[.func (.yield lp) #[] #[]] 67)).cell
  have hq : ∀ (w : World), (binOp .eql 30 .nilFunc .nilFunc).run Try.prog w = .ok (.bool true) w := fun w => by kernel_rfl
  have hk0 : ∀ f : Nat → Prop, Keep f W (W.alloc (.cells #[.func (.yield lp) #[] #[]] 67)) := fun f => (Keep.refl f W).alloc _
  clear hY
  refine callsIn_of_wp Try.func63 rfl trivial ?_ rfl
  simp only [Try.ntmps63, List.size_toArray, List.length_cons, List.length_nil, Nat.reduceAdd, Nat.reduceSub, Array.replicate_succ, Array.replicate_zero, List.push_toArray, List.append_toArray, List.nil_append, List.cons_append]
  gi_wp2
  refine bodyPost_ret (results_none rfl _ _ _) rfl ?_
  exact SeqEnd.all (hk0 T) (fun _ h => .inl h) (fun k h => by have := hlt k h; simp; omega) [] rfl (hJ _ _ _ _ h0 (hk0 fp))

/-- in W, the sequence that merge.Keep makes of a row lies ready -/
def KeepIt (W : World) (v : Value) (l : List Ver) (fs : List Nat) (bot : Bool) (r s : Nat) : Prop :=
  Boxed W r 22 v ∧ VersAt W v l ∧ Boxed W s 30 (.func (.func 34) #[] #[.pointer (some ⟨r, 0, none⟩)]) ∧ (∃ fv, Boxed W (s + 1) 46 fv ∧ NumsAt W fv fs ∧ ∀ k, fv.ownBlock = some k → s + 3 ≤ k ∧ k < W.heap.size) ∧ Boxed W (s + 2) 4 (.bool bot) ∧
    (0 < l.length → ∀ k, v.ownBlock = some k → k < r) ∧ r < s
theorem KeepIt.below {W W' : World} {v : Value} {l : List Ver} {fs : List Nat} {bot : Bool} {r s : Nat} (h : KeepIt W v l fs bot r s) (hb : Below W.heap.size W W') : KeepIt W' v l fs bot r s := by
  obtain ⟨h0, h1, h2, ⟨fv, h3, h4, h5⟩, h6, h7⟩ := h
  exact ⟨boxed_below hb h0, h1.below hb, boxed_below hb h2, ⟨fv, boxed_below hb h3, h4.below hb, fun k e => ⟨(h5 k e).1, Nat.lt_of_lt_of_le (h5 k e).2 hb.size⟩⟩, boxed_below hb h6, h7⟩
theorem keepIt_new {w w' : World} {v : Value} {l : List Ver} {fs : List Nat} {bot : Bool} {r : Nat} (hR : Boxed w r 22 v) (hv : VersAt w v l) (hb : 0 < l.length → ∀ k, v.ownBlock = some k → k < r)
    (h : KeepAt w (.func (.func 34) #[] #[.pointer (some ⟨r, 0, none⟩)]) fs bot w') : KeepIt w' v l fs bot r w.heap.size := by
  obtain ⟨h0, h1, h2, h3⟩ := h
  exact ⟨boxed_below h3 hR, hv.below h3, h0, h1, h2, hb, hR.lt⟩

theorem keep_call (v : Value) (l : List Ver) (fs : List Nat) (bot : Bool) (r s : Nat) (most : Int) (W : World) (hl : l.length ≤ 2932031007317) (h : KeepIt W v l fs bot r s) :
    Calls Try.prog 20 #[.func (.func 40) #[] #[.pointer (some ⟨s, 0, none⟩), .pointer (some ⟨s + 1, 0, none⟩), .pointer (some ⟨s + 2, 0, none⟩)], .int .i64 most] W fun e w' =>
      ∃ v', e = .returned v' ∧ VersAt w' v' (heads (Pl.keepOf fs bot l) most) ∧ Below W.heap.size W w' := by
  obtain ⟨h0, h1, h2, ⟨fv, h3, h4, h5⟩, h6, h7, h8⟩ := h
  have g3 := h6.lt
  have hkl := Pl.keepOf_length fs bot l
  obtain ⟨R, hR⟩ : ∃ R : Nat → Prop, R = fun k => k = r ∨ (0 < l.length ∧ v.ownBlock = some k) := ⟨_, rfl⟩
  obtain ⟨U, hU⟩ : ∃ U : Nat → Prop, U = fun k => k = s ∨ k = s + 1 ∨ k = s + 2 ∨ fv.ownBlock = some k := ⟨_, rfl⟩
  have hRs : ∀ k, R k → k < s := by
    rw [hR]
    rintro k (rfl | h)
    · exact h8
    · have := h7 h.1 k h.2; omega
  have hUs : ∀ k, U k → s ≤ k ∧ k < W.heap.size := by
    rw [hU]
    rintro k (rfl | rfl | rfl | h)
    · omega
    · omega
    · omega
    · have := h5 k h; omega
  have uS : U s := by rw [hU]; exact .inl rfl
  have uF : U (s + 1) := by rw [hU]; exact .inr (.inl rfl)
  have uB : U (s + 2) := by rw [hU]; exact .inr (.inr (.inl rfl))
  have uN : ∀ k, fv.ownBlock = some k → U k := by rw [hU]; exact fun k h => .inr (.inr (.inr h))
  have rR : R r := by rw [hR]; exact .inl rfl
  have rN : 0 < l.length → ∀ k, v.ownBlock = some k → R k := by rw [hR]; exact fun h0 k h => .inr ⟨h0, h⟩
  refine Calls.mono (callsIn_wide.1 (list_in 9 (by omega) 40 _ most W (fun k => R k ∨ U k) (Pl.keepOf fs bot l) l.length ?_ (by omega) (enters_of Try.func40 (by kernel_rfl) rfl) ?_)) ?_
  · rintro k (h | h)
    · have := hRs k h; omega
    · exact (hUs k h).2
  · intro W' hk
    have hv : ∀ W2 : World, Keep R W' W2 → VersAt W2 v l := fun W2 hk2 => by
      obtain ⟨ao, cap, rfl, c1, c2, h⟩ := h1
      refine ⟨ao, cap, rfl, c1, c2, fun hp => ?_⟩
      obtain ⟨b, off, rfl, hr⟩ := h hp
      have hr2 := hr.kept hk.size (hk.block b (.inl (rN hp b rfl)) hr.1)
      exact ⟨b, off, rfl, hr2.kept hk2.size (hk2.block b (rN hp b rfl) hr2.1)⟩
    have hr' := hk.boxed (.inl rR) h0
    refine (keep1_seq 8 (by omega) s (s + 1) (s + 2) (.func (.func 34) #[] #[.pointer (some ⟨r, 0, none⟩)]) fv fs bot (Pl.grps l) W' R U (fun g hg => ?_) hU (fun k hu hr => ?_) (fun k h => ?_)
      (hk.boxed (.inr uS) h2) (hk.boxed (.inr uF) h3) (hk.boxed (.inr uB) h6) (h4.kept hk.size (fun _ b hl e => hk.block b (.inr (uN b e)) hl)) (fun k e => ?_) (fun W2 => mgroups_any _ _ W2) ?_).toF hkl
    · have := Pl.grps_mem hg; omega
    · have := hRs k hr; have := (hUs k hu).1; omega
    · have := hRs k h; have := hk.size; omega
    · have := (h5 k e).2; have := hk.size; omega
    · intro W2 b hk2 hnb hbx
      have hRl : ∀ k, R k → k < W2.heap.size := fun k h => by have := hRs k h; have := hk.size; have := hk2.size; omega
      have := groups1_seq 7 (by omega) r b v l W2 R (fun k => k = b) (by omega) (hk2.boxed rR hr') (hv W2 hk2) rN rR rfl (fun k h h1 => by subst h; exact hnb h1) hRl hbx
      exact this
  · rintro e w' ⟨v', he, hr, hb⟩
    exact ⟨v', he, own_vers hr, hb⟩

theorem keepnil_call (fs : List Nat) (bot : Bool) (w W : World) (hI : KeepAt w .nilFunc fs bot W) :
    Calls Try.prog 20 #[.func (.func 40) #[] #[.pointer (some ⟨w.heap.size, 0, none⟩), .pointer (some ⟨w.heap.size + 1, 0, none⟩), .pointer (some ⟨w.heap.size + 2, 0, none⟩)], .int .i64 0] W fun e w' =>
      ∃ v', e = .returned v' ∧ VersAt w' v' [] ∧ Below W.heap.size W w' := by
  obtain ⟨h2, ⟨fv, h3, h4, h5⟩, h6, _⟩ := hI
  generalize w.heap.size = s at *
  have g3 := h6.lt
  obtain ⟨U, hU⟩ : ∃ U : Nat → Prop, U = fun k => k = s ∨ k = s + 1 ∨ k = s + 2 ∨ fv.ownBlock = some k := ⟨_, rfl⟩
  have hUs : ∀ k, U k → s ≤ k ∧ k < W.heap.size := by
    rw [hU]
    rintro k (rfl | rfl | rfl | h)
    · omega
    · omega
    · omega
    · have := h5 k h; omega
  have uS : U s := by rw [hU]; exact .inl rfl
  have uF : U (s + 1) := by rw [hU]; exact .inr (.inl rfl)
  have uB : U (s + 2) := by rw [hU]; exact .inr (.inr (.inl rfl))
  have uN : ∀ k, fv.ownBlock = some k → U k := by rw [hU]; exact fun k h => .inr (.inr (.inr h))
  refine Calls.mono (callsIn_wide.1 (list_in 9 (by omega) 40 _ 0 W (fun k => False ∨ U k) [] 0 ?_ (by omega) (enters_of Try.func40 (by kernel_rfl) rfl) ?_)) ?_
  · rintro k (h | h)
    · exact h.elim
    · exact (hUs k h).2
  · intro W' hk
    refine (keep1_seq 8 (by omega) s (s + 1) (s + 2) .nilFunc fv fs bot [] W' (fun _ => False) U (fun g hg => by cases hg) hU (fun k hu hr => hr) (fun k h => h.elim)
      (hk.boxed (.inr uS) h2) (hk.boxed (.inr uF) h3) (hk.boxed (.inr uB) h6) (h4.kept hk.size (fun _ b hl e => hk.block b (.inr (uN b e)) hl)) (fun k e => ?_) (fun W2 => mgroups_nil W2) ?_).toF (Nat.le_refl _)
    · have := (h5 k e).2; have := hk.size; omega
    · intro W2 b hk2 hnb hbx
      exact groups1_nil 7 b W2 (fun k => False ∨ k = b) (.inr rfl) hbx
  · rintro e w' ⟨v', he, hr, hb⟩
    exact ⟨v', he, own_vers hr, hb⟩

set_option maxRecDepth 100000 in
set_option maxHeartbeats 800000 in
theorem head_any (v : Value) (l : List Ver) (most : Int) (w : World) (hv : VersAt w v l) (h0 : 0 ≤ most) (hl : l.length ≤ 2932031007317) :
    Calls Try.prog 21 #[v, .int .i64 most] w fun e w' => ∃ v', e = .returned v' ∧ VersAt w v' (heads l most) ∧ w = w' := by
  obtain ⟨ao, cap, rfl, c1, c2, h⟩ := id hv
  by_cases h1 : 0 < most
  · by_cases h2 : most < l.length
    · obtain ⟨m, rfl⟩ := Int.eq_ofNat_of_zero_le h0
      have hh : heads l (m : Int) = l.take m := by unfold heads; rw [if_pos ⟨h1, by omega⟩]; rfl
      have hV : VersAt w (.slice ao m cap) (l.take m) := by
        have e : (l.take m).length = m := by rw [List.length_take]; omega
        refine ⟨ao, cap, by rw [e], by omega, c2, fun hp => ?_⟩
        obtain ⟨b, off, rfl, hr⟩ := h (by omega)
        refine ⟨b, off, rfl, hr.1, fun i hi => ?_⟩
        rw [List.getElem_take]
        exact hr.2 i (by omega)
      clear hv h
      go_enter Try.func21, Try.ntmps21
      go_wp2
      go_ret
      exact ⟨_, rfl, by rw [hh]; exact hV, rfl⟩
    · have hh : heads l most = l := by
        unfold heads
        split
        · rename_i hc; exact List.take_of_length_le (by omega)
        · rfl
      replace hh := Lib.hid hh
      clear h
      go_enter Try.func21, Try.ntmps21
      go_wp2
      go_ret
      exact ⟨_, rfl, by rw [hh.out]; exact hv, rfl⟩
  · have hh : heads l most = l := heads_none (fun h => h1 h.1)
    replace hh := Lib.hid hh
    clear h
    go_enter Try.func21, Try.ntmps21
    go_wp2
    go_ret
    exact ⟨_, rfl, by rw [hh.out]; exact hv, rfl⟩
end Go.Proofs.Ytiogjebekadmcaa
