/- ClRa4: lemmas of this claim, of 3 texts. -/
import Derived.Test.YtiamgjepcagohaaDoorClRa1
section
/- Package rational: its walks. -/
namespace Go.Proofs.YtiamgjepcagohaaDoor.P
open Go Go.RowKit Go.Proofs.YtiamgjepcagohaaDoorW.PrintWords Go.Proofs.YtiamgjepcagohaaDoorW.PrintLast Go.Proofs.YtiamgjepcagohaaDoorW.PrintMore Go.Proofs.YtiamgjepcagohaaDoor.Ari

set_option maxHeartbeats 2000000 in
set_option maxRecDepth 1000000 in
theorem Multiply_c {w0 w : World} {b1 b2 : Bool} {s1 t1 s2 t2 : ByteArray} {N M : Nat} (hB : Below w0.heap.size w0 w) (h1 : FitS N s1 t1) (h2 : FitS M s2 t2) (hN : N + M ≤ 1073741824) :
    Calls Tryd.prog 10 #[.agg #[.bool b1, .string s1, .string t1], .agg #[.bool b2, .string s2, .string t2]] w fun e w' => e = .returned (rv (rval b1 s1 t1 * rval b2 s2 t2)) ∧ Below w0.heap.size w0 w' := by
  have H0 := Aside0.mk hB
  obtain ⟨W, hW, HX, HY, HR, hbW⟩ := box3 w (.bool b1) (.string s1) (.string t1) (.bool b2) (.string s2) (.string t2) 27
  have HW : Aside0 (Below w0.heap.size w0 W) := ⟨below_step hB hbW⟩
  have HE := Aside0.mk hW
  have HC := Aside0.mk (fun V (hV : Below W.heap.size W V) => clean_c (b := b1) hV h1 (by omega))
  have HD := Aside0.mk (fun V (hV : Below W.heap.size W V) => clean_c (b := b2) hV h2 (by omega))
  have F1 := Aside0.mk (h1.val (b := b1))
  have F2 := Aside0.mk (h2.val (b := b2))
  obtain ⟨p, hp⟩ : ∃ p, rval b1 s1 t1 = p := ⟨_, rfl⟩
  obtain ⟨q, hq⟩ : ∃ p, rval b2 s2 t2 = p := ⟨_, rfl⟩
  rw [hp] at HC F1 ⊢
  rw [hq] at HD F2 ⊢
  clear hB hW hbW hp hq
  go_enter Tryd.func10, Tryd.ntmps10
  go_upto_region 1 with (fail)
  rw [HE.out]
  (refine wp_region_below_tail 4 (by kernel_rfl) (by kernel_rfl) ?_); (simp only [List.take_succ_cons, List.take_zero, List.drop_succ_cons, List.drop_zero]); (repeat (refine wpQuiet_step (fun K hK => ?_); go_simp; first | (refine hK _ ?_; clear hK K) | (apply Exists.intro; refine ⟨fun V hV => ?_, hK _ ?_⟩; (focus ((first | rfl | ((with_reducible exact HC.out _ hV)) | ((with_reducible exact HD.out _ hV)) | ((have kx := (HX.out.below hV)); have kc0 := kx.c0; have kc1 := kx.c1; have kc2 := kx.c2; clear kx; (have kx := (HY.out.below hV)); have ke0 := kx.c0; have ke1 := kx.c1; have ke2 := kx.c2; clear kx; go_simp; first | rfl | (trace_state; fail))))); clear hK K))); (refine wpQuiet_nil ?_); (intro V hV)
  have kx := (HX.out.below hV); have kx0 := kx.c0; have kx1 := kx.c1; have kx2 := kx.c2; have fx0 := kx.f0; have fx1 := kx.f1; have fx2 := kx.f2; clear kx
  have kx := (HY.out.below hV); have ky0 := kx.c0; have ky1 := kx.c1; have ky2 := kx.c2; have fy0 := kx.f0; have fy1 := kx.f1; have fy2 := kx.f2; clear kx
  go_upto_region 2 with (fail)
  obtain ⟨W2, hW2, HX2, HY2, HR2, HW2⟩ := box_set2 HX HY HR hV HW H0.out.size (.bool (ngv p)) (.string (enc p.num.natAbs)) (.string (encD p.den)) (.bool (ngv q)) (.string (enc q.num.natAbs)) (.string (encD q.den))
  rw [hW2]
  have HE2 := Aside0.mk hW2
  have S1 : Sm p.num.natAbs := ⟨by have := F1.out.num; omega⟩
  have S2 : Sm q.num.natAbs := ⟨by have := F2.out.num; omega⟩
  have S3 : Sm p.den := ⟨by have := F1.out.den; omega⟩
  have S4 : Sm q.den := ⟨by have := F2.out.den; omega⟩
  have S5 : Sm (p.num.natAbs * q.num.natAbs) := ⟨Nat.le_trans (nb_mul_le F1.out.num F2.out.num) hN⟩
  have S6 : Sm (p.den * q.den) := ⟨Nat.le_trans (nb_mul_le F1.out.den F2.out.den) hN⟩
  have p1 := p.den_pos
  have p2 := q.den_pos
  have p3 := Nat.mul_pos p1 p2
  clear kx0 kx1 kx2 ky0 ky1 ky2 fx0 fx1 fx2 fy0 fy1 fy2 hV hW2 HX HY HR
  (refine wp_region_below_tail 16 (by kernel_rfl) (by kernel_rfl) ?_); (simp only [List.take_succ_cons, List.take_zero, List.drop_succ_cons, List.drop_zero]); (repeat (refine wpQuiet_step (fun K hK => ?_); go_simp; first | (refine hK _ ?_; clear hK K) | (apply Exists.intro; refine ⟨fun V hV => ?_, hK _ ?_⟩; (focus ((first | rfl | ((with_reducible exact den_c hV p1)) | ((with_reducible exact den_c hV p2)) | ((with_reducible exact mul_s hV S1 S2)) | ((with_reducible exact mul_s hV S3 S4)) | ((with_reducible exact reduced_c hV p3 S5 S6)) | ((have kx := (HX2.out.below hV)); have kc0 := kx.c0; have kc1 := kx.c1; have kc2 := kx.c2; clear kx; (have kx := (HY2.out.below hV)); have ke0 := kx.c0; have ke1 := kx.c1; have ke2 := kx.c2; clear kx; go_simp; first | rfl | (trace_state; fail))))); clear hK K))); (refine wpQuiet_nil ?_); (intro V hV)
  have kx := (HR2.out.below hV); have kx0 := kx.c0; have kx1 := kx.c1; have kx2 := kx.c2; have fx0 := kx.f0; have fx1 := kx.f1; have fx2 := kx.f2; clear kx
  go_wp2
  refine bodyPost_ret (results_bx rfl rfl (((HR2.out.below hV).set _ _ _))) rfl ?_
  refine ⟨?_, below_set3 (below_step HW2.out hV) (by have := H0.out.size; omega)⟩
  rw [← mul_eq]
  rfl

set_option maxHeartbeats 2000000 in
set_option maxRecDepth 1000000 in
theorem signOf_c {w0 w : World} {q : Rat} (hB : Below w0.heap.size w0 w) :
    Calls Tryd.prog 43 #[.agg #[.bool (ngv q), .string (enc q.num.natAbs), .string (encD q.den)]] w fun e w' => e = .returned (.int .i64 (sgn q)) ∧ Below w0.heap.size w0 w' := by
  have H0 := Aside0.mk hB; obtain ⟨W, hW, HX, hbW⟩ := box1 w (.bool (ngv q)) (.string (enc q.num.natAbs)) (.string (encD q.den)) 27; have HW : Aside0 (Below w0.heap.size w0 W) := ⟨below_step hB hbW⟩; have HE := Aside0.mk hW
  have he := empty_enc q.num.natAbs
  obtain ⟨s, hs⟩ : ∃ s, enc q.num.natAbs = s := ⟨_, rfl⟩
  rw [hs] at he HX HE ⊢
  have He := Aside0.mk he
  obtain ⟨b, hb⟩ : ∃ b, ngv q = b := ⟨_, rfl⟩
  rw [hb] at HX HE ⊢
  have Hb := Aside0.mk hb
  clear hB hW hbW hs he hb
  go_enter Tryd.func43, Tryd.ntmps43
  go_upto_block 0 with (fail)
  rw [HE.out]
  have kx := (HX.out); have kx0 := kx.c0; have kx1 := kx.c1; have kx2 := kx.c2; have fx0 := kx.f0; have fx1 := kx.f1; have fx2 := kx.f2; clear kx
  go_wp2
  all_goals go_ret
  all_goals refine ⟨?_, HW.out⟩
  all_goals have h1 := He.out
  all_goals unfold sgn
  all_goals rw [Hb.out]
  all_goals simp_all

set_option maxHeartbeats 2000000 in
set_option maxRecDepth 1000000 in
theorem negate_c {w0 w : World} {q : Rat} (hB : Below w0.heap.size w0 w) :
    Calls Tryd.prog 35 #[.agg #[.bool (ngv q), .string (enc q.num.natAbs), .string (encD q.den)]] w fun e w' => e = .returned (rv (-q)) ∧ Below w0.heap.size w0 w' := by
  have H0 := Aside0.mk hB; obtain ⟨W, hW, HX, HR, hbW⟩ := box2 w (.bool (ngv q)) (.string (enc q.num.natAbs)) (.string (encD q.den)) 27; have HW : Aside0 (Below w0.heap.size w0 W) := ⟨below_step hB hbW⟩; have HE := Aside0.mk hW
  have he := empty_enc q.num.natAbs
  have hv := @rv_neg q
  obtain ⟨s, hs⟩ : ∃ s, enc q.num.natAbs = s := ⟨_, rfl⟩
  obtain ⟨t, ht⟩ : ∃ s, encD q.den = s := ⟨_, rfl⟩
  rw [hs] at he HX HE hv ⊢
  rw [ht] at HX HE hv ⊢
  have He := Aside0.mk he
  have Hv := Aside0.mk hv
  obtain ⟨b, hb⟩ : ∃ b, ngv q = b := ⟨_, rfl⟩
  rw [hb] at HX HE Hv ⊢
  have Hb := Aside0.mk hb
  clear hB hW hbW hs he hb ht hv
  go_enter Tryd.func35, Tryd.ntmps35
  go_upto_region 1 with (fail)
  rw [HE.out]
  have kx := (HX.out); have kx0 := kx.c0; have kx1 := kx.c1; have kx2 := kx.c2; have fx0 := kx.f0; have fx1 := kx.f1; have fx2 := kx.f2; clear kx
  have kx := (HR.out); have kr0 := kx.c0; have kr1 := kx.c1; have kr2 := kx.c2; have fr0 := kx.f0; have fr1 := kx.f1; have fr2 := kx.f2; clear kx
  go_wp2
  all_goals
    refine bodyPost_ret (results_bx rfl rfl ((HR.out.other (j := 0) (by omega)).set _ _ _)) rfl ?_
    refine ⟨?_, below_set3 (below_set HW.out H0.out.size) (by have := H0.out.size; omega)⟩
    rw [Hv.out]
    have h1 := He.out
    simp_all

set_option maxHeartbeats 2000000 in
set_option maxRecDepth 1000000 in
theorem Negate_c {w0 w : World} {b : Bool} {s t : ByteArray} {N : Nat} (hB : Below w0.heap.size w0 w) (h1 : FitS N s t) (hN : N ≤ 1073741824) :
    Calls Tryd.prog 16 #[.agg #[.bool b, .string s, .string t]] w fun e w' => e = .returned (rv (-rval b s t)) ∧ Below w0.heap.size w0 w' := by
  have H0 := Aside0.mk hB; obtain ⟨W, hW, HX, HR, hbW⟩ := box2 w (.bool b) (.string s) (.string t) 27; have HW : Aside0 (Below w0.heap.size w0 W) := ⟨below_step hB hbW⟩; have HE := Aside0.mk hW
  have HC := Aside0.mk (fun V (hV : Below W.heap.size W V) => clean_c (b := b) hV h1 (by omega))
  obtain ⟨p, hp⟩ : ∃ p, rval b s t = p := ⟨_, rfl⟩
  have HG := Aside0.mk (fun V (hV : Below W.heap.size W V) => negate_c (q := p) hV)
  obtain ⟨r, hr⟩ : ∃ r, -p = r := ⟨_, rfl⟩
  rw [hp] at HC ⊢
  rw [hr] at HG ⊢
  clear hB hW hbW hp hr
  go_enter Tryd.func16, Tryd.ntmps16
  go_upto_region 1 with (fail)
  rw [HE.out]
  have kx := (HX.out); have kx0 := kx.c0; have kx1 := kx.c1; have kx2 := kx.c2; have fx0 := kx.f0; have fx1 := kx.f1; have fx2 := kx.f2; clear kx
  have HB : Aside0 (Below W.heap.size W W) := ⟨Below.refl _ _⟩
  go_wp2_with (first | (go_at_call 25; (with_reducible refine (HC.out _ HB.out).mono ?_); rintro e w1 ⟨rfl, hB⟩; have HB1 := Aside0.mk hB; clear hB) | (go_at_call 35; (with_reducible refine (HG.out _ HB1.out).mono ?_); rintro e w1 ⟨rfl, hB⟩; have HB2 := Aside0.mk hB; have kx := (HR.out.below hB); have kr0 := kx.c0; have kr1 := kx.c1; have kr2 := kx.c2; have fr0 := kx.f0; have fr1 := kx.f1; have fr2 := kx.f2; clear kx; clear hB))
  refine bodyPost_ret (results_bx rfl rfl ((HR.out.below HB2.out).set _ _ _)) rfl ?_
  exact ⟨rfl, below_set3 (below_step HW.out HB2.out) (by have := H0.out.size; omega)⟩

set_option maxHeartbeats 2000000 in
set_option maxRecDepth 1000000 in
theorem Sign_c {w0 w : World} {b : Bool} {s t : ByteArray} {N : Nat} (hB : Below w0.heap.size w0 w) (h1 : FitS N s t) (hN : N ≤ 1073741824) :
    Calls Tryd.prog 21 #[.agg #[.bool b, .string s, .string t]] w fun e w' => e = .returned (.int .i64 (sgn (rval b s t))) ∧ Below w0.heap.size w0 w' := by
  have H0 := Aside0.mk hB; obtain ⟨W, hW, HX, hbW⟩ := box1 w (.bool b) (.string s) (.string t) 27; have HW : Aside0 (Below w0.heap.size w0 W) := ⟨below_step hB hbW⟩; have HE := Aside0.mk hW
  have HC := Aside0.mk (fun V (hV : Below W.heap.size W V) => clean_c (b := b) hV h1 (by omega))
  obtain ⟨p, hp⟩ : ∃ p, rval b s t = p := ⟨_, rfl⟩
  rw [hp] at HC ⊢
  clear hB hW hbW hp
  go_enter Tryd.func21, Tryd.ntmps21
  go_upto_region 1 with (fail)
  rw [HE.out]
  have kx := (HX.out); have kx0 := kx.c0; have kx1 := kx.c1; have kx2 := kx.c2; have fx0 := kx.f0; have fx1 := kx.f1; have fx2 := kx.f2; clear kx
  have HB : Aside0 (Below W.heap.size W W) := ⟨Below.refl _ _⟩
  go_wp2_with (first | (go_at_call 25; (with_reducible refine (HC.out _ HB.out).mono ?_); rintro e w1 ⟨rfl, hB⟩; have HB1 := Aside0.mk hB; clear hB) | (go_at_call 43; (with_reducible refine (signOf_c (w0 := W) HB1.out).mono ?_); rintro e w1 ⟨rfl, hB⟩; have HB2 := Aside0.mk hB; clear hB))
  go_ret
  exact ⟨rfl, below_step HW.out HB2.out⟩

set_option maxHeartbeats 2000000 in
set_option maxRecDepth 1000000 in
theorem Make_zero {w0 w : World} {b : Bool} {s : ByteArray} (hB : Below w0.heap.size w0 w) :
    Calls Tryd.prog 42 #[.bool b, .string s, .string (enc 0)] w fun e w' => e = .returned (.tuple #[rv 0, .bool false]) ∧ Below w0.heap.size w0 w' := by
  have H0 := Aside0.mk hB
  obtain ⟨W, hW, HR, hbW⟩ := boxR w 27
  have HW : Aside0 (Below w0.heap.size w0 W) := ⟨below_step hB hbW⟩
  have HE := Aside0.mk hW
  have HC := Aside0.mk (fun V (hV : Below W.heap.size W V) => norm_s hV (x := 0) ⟨by rw [nb_zero]; omega⟩)
  have he := empty_enc 0
  have hv := rv_zero
  obtain ⟨z, hz⟩ : ∃ z, rv 0 = z := ⟨_, rfl⟩
  rw [hz] at hv ⊢
  obtain ⟨t, ht⟩ : ∃ s, enc 0 = s := ⟨_, rfl⟩
  rw [ht] at he HC ⊢
  rw [decide_eq_true rfl] at he
  have Hv := Aside0.mk hv
  clear hB hW hbW ht hz hv
  go_enter Tryd.func42, Tryd.ntmps42
  go_upto_region 1 with (fail)
  rw [HE.out]
  have HB : Aside0 (Below W.heap.size W W) := ⟨Below.refl _ _⟩
  go_wp2_with (go_at_call 49; (with_reducible refine (HC.out _ HB.out).mono ?_); rintro e w1 ⟨rfl, hB⟩; have HB1 := Aside0.mk hB; have kx := (HR.out.below hB); have kr0 := kx.c0; have kr1 := kx.c1; have kr2 := kx.c2; have fr0 := kx.f0; have fr1 := kx.f1; have fr2 := kx.f2; clear kx; clear hB)
  refine bodyPost_ret (results_bx_tmp rfl rfl ((HR.out.below HB1.out).set _ _ _)) rfl ?_
  refine ⟨?_, below_set3 (below_step HW.out HB1.out) (by have := H0.out.size; omega)⟩
  rw [Hv.out]
  rfl

set_option maxHeartbeats 2000000 in
set_option maxRecDepth 1000000 in
theorem Make_pos {w0 w : World} {b : Bool} {n d : Nat} (hB : Below w0.heap.size w0 w) (hd : 0 < d) (hn : Sm n) (hds : Sm d) :
    Calls Tryd.prog 42 #[.bool b, .string (enc n), .string (enc d)] w fun e w' => e = .returned (.tuple #[rv (qq b n d), .bool true]) ∧ Below w0.heap.size w0 w' := by
  have H0 := Aside0.mk hB
  obtain ⟨W, hW, HR, hbW⟩ := boxR w 27
  have HW : Aside0 (Below w0.heap.size w0 W) := ⟨below_step hB hbW⟩
  have HE := Aside0.mk hW
  have HC := Aside0.mk (fun V (hV : Below W.heap.size W V) => norm_s hV hds)
  have HD := Aside0.mk (fun V (hV : Below W.heap.size W V) => reduced_c (b := b) hV hd hn hds)
  obtain ⟨q, hq⟩ : ∃ q, qq b n d = q := ⟨_, rfl⟩
  have he := empty_enc d
  rw [decide_eq_false (by omega)] at he
  obtain ⟨s, hs⟩ : ∃ s, enc d = s := ⟨_, rfl⟩
  rw [hq] at HD ⊢
  rw [hs] at he HC HD ⊢
  clear hB hW hbW hq hs
  go_enter Tryd.func42, Tryd.ntmps42
  go_upto_region 1 with (fail)
  rw [HE.out]
  have HB : Aside0 (Below W.heap.size W W) := ⟨Below.refl _ _⟩
  go_wp2_with (first | (go_at_call 49; (with_reducible refine (HC.out _ HB.out).mono ?_); rintro e w1 ⟨rfl, hB⟩; have HB1 := Aside0.mk hB; clear hB) | (go_at_call 26; (with_reducible refine (HD.out _ HB1.out).mono ?_); rintro e w1 ⟨rfl, hB⟩; have HB2 := Aside0.mk hB; have kx := (HR.out.below hB); have kr0 := kx.c0; have kr1 := kx.c1; have kr2 := kx.c2; have fr0 := kx.f0; have fr1 := kx.f1; have fr2 := kx.f2; clear kx; clear hB))
  refine bodyPost_ret (results_bx_tmp rfl rfl ((HR.out.below HB2.out).set _ _ _)) rfl ?_
  exact ⟨rfl, below_set3 (below_step HW.out HB2.out) (by have := H0.out.size; omega)⟩

/-! magnitude, Int -/
theorem mag_neg {n : Int} (h : n < 0) (hn : -9223372036854775808 ≤ n) : IntKind.u64.wrap (-(IntKind.u64.wrap n)) = (n.natAbs : Int) := by
  rw [u64m, u64m]
  omega
theorem mag_pos {n : Int} (h : 0 ≤ n) (hn : n < 9223372036854775808) : IntKind.u64.wrap n = (n.natAbs : Int) := by
  rw [u64m]
  omega
set_option maxHeartbeats 2000000 in
set_option maxRecDepth 1000000 in
theorem magnitude_c {w0 w : World} {n : Int} (hB : Below w0.heap.size w0 w) (h0 : -9223372036854775808 ≤ n) (h1 : n < 9223372036854775808) :
    Calls Tryd.prog 58 #[.int .i64 n] w fun e w' => e = .returned (.string (enc n.natAbs)) ∧ Below w0.heap.size w0 w' := by
  have HC := Aside0.mk (fun V (hV : Below w0.heap.size w0 V) => fromUint_s hV (u := n.natAbs) (by omega))
  have HB := Aside0.mk hB
  obtain ⟨m, hm⟩ : ∃ m : Int, (n.natAbs : Int) = m := ⟨_, rfl⟩
  have hm1 : n < 0 → IntKind.u64.wrap (-(IntKind.u64.wrap n)) = m := fun h => by rw [← hm]; exact mag_neg h h0
  have hm2 : 0 ≤ n → IntKind.u64.wrap n = m := fun h => by rw [← hm]; exact mag_pos h h1
  obtain ⟨s, hs⟩ : ∃ s, enc n.natAbs = s := ⟨_, rfl⟩
  rw [hm, hs] at HC
  rw [hs]
  clear hB hm hs
  by_cases hlt : n < 0
  · have hm3 := hm1 hlt
    clear hm1 hm2
    go_enter Tryd.func58, Tryd.ntmps58
    go_wp2_with (go_at_call 38; (with_reducible refine (HC.out _ HB.out).mono ?_); rintro e w1 ⟨rfl, hB⟩; have HB1 := Aside0.mk hB; clear hB)
    go_ret
    exact ⟨rfl, HB1.out⟩
  · have hm3 := hm2 (by omega)
    clear hm1 hm2
    go_enter Tryd.func58, Tryd.ntmps58
    go_wp2_with (go_at_call 38; (with_reducible refine (HC.out _ HB.out).mono ?_); rintro e w1 ⟨rfl, hB⟩; have HB1 := Aside0.mk hB; clear hB)
    go_ret
    exact ⟨rfl, HB1.out⟩

set_option maxHeartbeats 2000000 in
set_option maxRecDepth 1000000 in
theorem Int_c {w0 w : World} {n : Int} (hB : Below w0.heap.size w0 w) (h0 : -9223372036854775808 ≤ n) (h1 : n < 9223372036854775808) :
    Calls Tryd.prog 32 #[.int .i64 n] w fun e w' => e = .returned (rv (n : Rat)) ∧ Below w0.heap.size w0 w' := by
  have H0 := Aside0.mk hB
  obtain ⟨W, hW, HR, hbW⟩ := boxR w 27
  have HW : Aside0 (Below w0.heap.size w0 W) := ⟨below_step hB hbW⟩
  have HE := Aside0.mk hW
  have HC := Aside0.mk (fun V (hV : Below W.heap.size W V) => magnitude_c hV h0 h1)
  have HD := Aside0.mk (fun V (hV : Below W.heap.size W V) => reduced_c (b := decide (n < 0)) (n := n.natAbs) (d := 1) hV (by decide) ⟨Nat.le_trans (nb_le (L := 9) (by omega)) (by decide)⟩ ⟨by rw [nb_one]; decide⟩)
  have hq : qq (decide (n < 0)) n.natAbs 1 = (n : Rat) := by
    have := qq_self (n : Rat)
    rwa [show ngv (n : Rat) = decide (n < 0) from rfl, Rat.num_intCast, Rat.den_intCast] at this
  obtain ⟨q, hq2⟩ : ∃ q : Rat, (n : Rat) = q := ⟨_, rfl⟩
  rw [hq, hq2, enc_one] at HD
  rw [hq2]
  obtain ⟨s, hs⟩ : ∃ s, enc n.natAbs = s := ⟨_, rfl⟩
  rw [hs] at HC HD
  clear hB hW hbW hq hq2 hs
  go_enter Tryd.func32, Tryd.ntmps32
  go_upto_region 1 with (fail)
  rw [HE.out]
  have HB : Aside0 (Below W.heap.size W W) := ⟨Below.refl _ _⟩
  go_wp2_with (first | (go_at_call 58; (with_reducible refine (HC.out _ HB.out).mono ?_); rintro e w1 ⟨rfl, hB⟩; have HB1 := Aside0.mk hB; clear hB) | (go_at_call 26; (with_reducible refine (HD.out _ HB1.out).mono ?_); rintro e w1 ⟨rfl, hB⟩; have HB2 := Aside0.mk hB; have kx := (HR.out.below hB); have kr0 := kx.c0; have kr1 := kx.c1; have kr2 := kx.c2; have fr0 := kx.f0; have fr1 := kx.f1; have fr2 := kx.f2; clear kx; clear hB))
  refine bodyPost_ret (results_bx rfl rfl ((HR.out.below HB2.out).set _ _ _)) rfl ?_
  exact ⟨rfl, below_set3 (below_step HW.out HB2.out) (by have := H0.out.size; omega)⟩
end Go.Proofs.YtiamgjepcagohaaDoor.P
end
section
/- Package rational: its walks. -/
namespace Go.Proofs.YtiamgjepcagohaaDoor.P
open Go Go.RowKit Go.Proofs.YtiamgjepcagohaaDoorW.PrintWords Go.Proofs.YtiamgjepcagohaaDoorW.PrintLast Go.Proofs.YtiamgjepcagohaaDoorW.PrintMore Go.Proofs.YtiamgjepcagohaaDoor.Ari

theorem encD_inj {a b : Nat} (ha : 0 < a) (hb : 0 < b) (h : encD a = encD b) : a = b := by
  rw [← sv_encD a ha, ← sv_encD b hb, h]
/-- What add's last part is told: over one denominator. -/
structure OneDen (b1 b2 : Bool) (X Y D : Nat) (r : Rat) : Prop where
  pos : 0 < D
  sx : Sm X
  sy : Sm Y
  sxy : Sm (X + Y)
  sd : Sm D
  same : b1 = b2 → qq b1 (X + Y) D = r
  le : b1 ≠ b2 → Y ≤ X → qq b1 (X - Y) D = r
  ge : b1 ≠ b2 → X ≤ Y → qq b2 (Y - X) D = r
theorem beq_bool_ne {a b : Bool} (h : a ≠ b) : (a == b) = false := by simp [h]
theorem sub_le_c {w0 w : World} {x y z : Nat} (hB : Below w0.heap.size w0 w) (hx : Sm x) (hy : Sm y) (hl : y ≤ x) (hz : x - y = z) :
    Calls Tryd.prog 47 #[.string (enc x), .string (enc y)] w fun e w' => e = .returned (.tuple #[.string (enc z), .bool true]) ∧ Below w0.heap.size w0 w' := by
  have h := sub_s hB hx hy
  rw [if_neg (by omega), decide_eq_true hl, hz] at h
  exact h
theorem sub_gt_c {w0 w : World} {x y : Nat} (hB : Below w0.heap.size w0 w) (hx : Sm x) (hy : Sm y) (hl : x < y) :
    Calls Tryd.prog 47 #[.string (enc x), .string (enc y)] w fun e w' => e = .returned (.tuple #[.string (enc 0), .bool false]) ∧ Below w0.heap.size w0 w' := by
  have h := sub_s hB hx hy
  rw [if_pos hl, decide_eq_false (by omega)] at h
  exact h
set_option maxHeartbeats 2000000 in
set_option maxRecDepth 1000000 in
theorem add_same_c {w0 w : World} {p q : Rat} {N M : Nat} (hB : Below w0.heap.size w0 w) (h1 : Fit N p) (h2 : Fit M q) (hN : N + M + 1 ≤ 1073741824) (he : p.den = q.den) :
    Calls Tryd.prog 24 #[.agg #[.bool (ngv p), .string (enc p.num.natAbs), .string (encD p.den)], .agg #[.bool (ngv q), .string (enc q.num.natAbs), .string (encD q.den)]] w fun e w' => e = .returned (rv (p + q)) ∧ Below w0.heap.size w0 w' := by
  have H0 := Aside0.mk hB; obtain ⟨W, hW, HX, HY, HR, hbW⟩ := box3 w (.bool (ngv p)) (.string (enc p.num.natAbs)) (.string (encD p.den)) (.bool (ngv q)) (.string (enc q.num.natAbs)) (.string (encD q.den)) 27; have HW : Aside0 (Below w0.heap.size w0 W) := ⟨below_step hB hbW⟩; have HE := Aside0.mk hW
  have hden : ((encD p.den).toList == (encD q.den).toList) = true := by rw [he, beq_self_eq_true]
  have HA := add_eq (add_one_den he)
  obtain ⟨X, hx⟩ : ∃ x, p.num.natAbs = x := ⟨_, rfl⟩
  obtain ⟨Y, hy⟩ : ∃ x, q.num.natAbs = x := ⟨_, rfl⟩
  obtain ⟨d, hd⟩ : ∃ x, p.den = x := ⟨_, rfl⟩
  have d0 : 0 < d := hd ▸ p.den_pos
  have hd2 : q.den = d := he ▸ hd
  have nx : nb X ≤ N + M := Nat.le_trans (hx ▸ h1.num) (by omega)
  have ny : nb Y ≤ N + M := Nat.le_trans (hy ▸ h2.num) (by omega)
  have nd : nb d ≤ N + M := Nat.le_trans (hd ▸ h1.den) (by omega)
  have Sx : Sm X := ⟨by omega⟩
  have Sy : Sm Y := ⟨by omega⟩
  have Sd : Sm d := ⟨by omega⟩
  have Sxy : Sm (X + Y) := ⟨by have := nb_add_le nx ny; omega⟩
  obtain ⟨r, hr⟩ : ∃ r, p + q = r := ⟨_, rfl⟩
  obtain ⟨b1, hb1⟩ : ∃ b, ngv p = b := ⟨_, rfl⟩
  obtain ⟨b2, hb2⟩ : ∃ b, ngv q = b := ⟨_, rfl⟩
  simp only [hx, hy, hd, hd2, hr, hb1, hb2] at hden HA HX HY HE ⊢
  have HO : Aside0 (OneDen b1 b2 X Y d r) := ⟨⟨d0, Sx, Sy, Sxy, Sd, HA.1, fun h => (HA.2 h).1, fun h => (HA.2 h).2⟩⟩
  clear hB hW hbW hx hy hd hd2 hr he h1 h2 hN hb1 hb2 nx ny nd HA Sx Sy Sd Sxy
  go_enter Tryd.func24, Tryd.ntmps24
  go_upto_region 1 with (fail)
  rw [HE.out]
  (refine wp_region_below (by kernel_rfl) (by kernel_rfl) ?_); (repeat (refine wpQuiet_step (fun K hK => ?_); go_simp; first | (refine hK _ ?_; clear hK K) | (apply Exists.intro; refine ⟨fun V hV => ?_, hK _ ?_⟩; (focus ((first | rfl | ((have kx := (HX.out.below hV)); have kc0 := kx.c0; have kc1 := kx.c1; have kc2 := kx.c2; clear kx; (have kx := (HY.out.below hV)); have ke0 := kx.c0; have ke1 := kx.c1; have ke2 := kx.c2; clear kx; go_simp; first | rfl | (trace_state; fail))))); clear hK K))); (refine wpQuiet_nil ?_); (intro V hV)
  replace HX := Aside0.mk (HX.out.below hV); replace HY := Aside0.mk (HY.out.below hV); replace HR := Aside0.mk (HR.out.below hV); replace HW := Aside0.mk (below_step HW.out hV)
  have HD : Aside0 (∀ U, Below V.heap.size V U → Calls Tryd.prog 28 #[.agg #[.bool b1, .string (enc X), .string (encD d)]] U fun e w' => e = .returned (.string (enc d)) ∧ Below V.heap.size V w') := ⟨fun U hU => den_c hU d0⟩
  clear hV
  have kx := (HX.out); have kx0 := kx.c0; have kx1 := kx.c1; have kx2 := kx.c2; have fx0 := kx.f0; have fx1 := kx.f1; have fx2 := kx.f2; clear kx; have kx := (HY.out); have ky0 := kx.c0; have ky1 := kx.c1; have ky2 := kx.c2; have fy0 := kx.f0; have fy1 := kx.f1; have fy2 := kx.f2; clear kx; have kx := (HR.out); have kr0 := kx.c0; have kr1 := kx.c1; have kr2 := kx.c2; have fr0 := kx.f0; have fr1 := kx.f1; have fr2 := kx.f2; clear kx
  go_upto_region 6 with (go_at_call 28; (with_reducible refine (HD.out _ (Below.refl _ _)).mono ?_); rintro e w1 ⟨rfl, hV⟩; replace HX := Aside0.mk (HX.out.below hV); replace HY := Aside0.mk (HY.out.below hV); replace HR := Aside0.mk (HR.out.below hV); replace HW := Aside0.mk (below_step HW.out hV); clear kx0 kx1 kx2 fx0 fx1 fx2 ky0 ky1 ky2 fy0 fy1 fy2 kr0 kr1 kr2 fr0 fr1 fr2; have kx := (HX.out); have kx0 := kx.c0; have kx1 := kx.c1; have kx2 := kx.c2; have fx0 := kx.f0; have fx1 := kx.f1; have fx2 := kx.f2; clear kx; have kx := (HY.out); have ky0 := kx.c0; have ky1 := kx.c1; have ky2 := kx.c2; have fy0 := kx.f0; have fy1 := kx.f1; have fy2 := kx.f2; clear kx; have kx := (HR.out); have kr0 := kx.c0; have kr1 := kx.c1; have kr2 := kx.c2; have fr0 := kx.f0; have fr1 := kx.f1; have fr2 := kx.f2; clear kx; clear hV)
  clear HD
  by_cases e : b1 = b2; (focus ((subst e; (have r0 := HO.out.same rfl); (replace HO := Aside0.mk (And.intro r0 HO.out)); (clear r0); go_upto_region 7 with (fail); (clear kx0 kx1 kx2 fx0 fx1 fx2 ky0 ky1 ky2 fy0 fy1 fy2 kr0 kr1 kr2 fr0 fr1 fr2); ((refine wp_region_below_tail 7 (by kernel_rfl) (by kernel_rfl) ?_); (simp only [List.take_succ_cons, List.take_zero, List.drop_succ_cons, List.drop_zero]); (repeat (refine wpQuiet_step (fun K hK => ?_); go_simp; first | (refine hK _ ?_; clear hK K) | (apply Exists.intro; refine ⟨fun V hV => ?_, hK _ ?_⟩; (focus ((first | rfl | ((with_reducible exact add_s hV HO.out.2.sx HO.out.2.sy)) | ((with_reducible exact reduced_c hV HO.out.2.pos HO.out.2.sxy HO.out.2.sd)) | ((have kx := (HX.out.below hV)); have kc0 := kx.c0; have kc1 := kx.c1; have kc2 := kx.c2; clear kx; (have kx := (HY.out.below hV)); have ke0 := kx.c0; have ke1 := kx.c1; have ke2 := kx.c2; clear kx; go_simp; first | rfl | (trace_state; fail))))); clear hK K))); (refine wpQuiet_nil ?_); (intro V hV)); (replace HX := Aside0.mk (HX.out.below hV); replace HY := Aside0.mk (HY.out.below hV); replace HR := Aside0.mk (HR.out.below hV); replace HW := Aside0.mk (below_step HW.out hV)); (have kx := (HR.out); have kr0 := kx.c0; have kr1 := kx.c1; have kr2 := kx.c2; have fr0 := kx.f0; have fr1 := kx.f1; have fr2 := kx.f2; clear kx); go_wp2; (refine bodyPost_ret (results_bx rfl rfl (HR.out.set _ _ _)) rfl ?_); exact ⟨by rw [← HO.out.1], below_set3 HW.out (by have := H0.out.size; omega)⟩))); (have hne := beq_bool_ne e); (have HN := Aside0.mk e); clear e; rcases Nat.lt_or_ge X Y with hl | hl; (focus ((have HL := Aside0.mk hl); (clear hl); (obtain ⟨z, hz⟩ : ∃ z, Y - X = z := ⟨_, rfl⟩); (have r0 := HO.out.ge HN.out (Nat.le_of_lt HL.out)); (rw [hz] at r0); (have HZ := Aside0.mk (And.intro hz (And.intro r0 (HO.out.sy.le (hz ▸ Nat.sub_le _ _))))); (clear r0 hz); (go_wp2_with (first | (go_at_call 47; (with_reducible refine (sub_gt_c (Below.refl _ _) HO.out.sx HO.out.sy HL.out).mono ?_); rintro e w1 ⟨rfl, hV⟩; replace HX := Aside0.mk (HX.out.below hV); replace HY := Aside0.mk (HY.out.below hV); replace HR := Aside0.mk (HR.out.below hV); replace HW := Aside0.mk (below_step HW.out hV); clear kx0 kx1 kx2 fx0 fx1 fx2 ky0 ky1 ky2 fy0 fy1 fy2 kr0 kr1 kr2 fr0 fr1 fr2; have kx := (HX.out); have kx0 := kx.c0; have kx1 := kx.c1; have kx2 := kx.c2; have fx0 := kx.f0; have fx1 := kx.f1; have fx2 := kx.f2; clear kx; have kx := (HY.out); have ky0 := kx.c0; have ky1 := kx.c1; have ky2 := kx.c2; have fy0 := kx.f0; have fy1 := kx.f1; have fy2 := kx.f2; clear kx; have kx := (HR.out); have kr0 := kx.c0; have kr1 := kx.c1; have kr2 := kx.c2; have fr0 := kx.f0; have fr1 := kx.f1; have fr2 := kx.f2; clear kx; clear hV) | (go_at_call 47; (with_reducible refine (sub_le_c (Below.refl _ _) HO.out.sy HO.out.sx (Nat.le_of_lt HL.out) HZ.out.1).mono ?_); rintro e w1 ⟨rfl, hV⟩; replace HX := Aside0.mk (HX.out.below hV); replace HY := Aside0.mk (HY.out.below hV); replace HR := Aside0.mk (HR.out.below hV); replace HW := Aside0.mk (below_step HW.out hV); clear kx0 kx1 kx2 fx0 fx1 fx2 ky0 ky1 ky2 fy0 fy1 fy2 kr0 kr1 kr2 fr0 fr1 fr2; have kx := (HX.out); have kx0 := kx.c0; have kx1 := kx.c1; have kx2 := kx.c2; have fx0 := kx.f0; have fx1 := kx.f1; have fx2 := kx.f2; clear kx; have kx := (HY.out); have ky0 := kx.c0; have ky1 := kx.c1; have ky2 := kx.c2; have fy0 := kx.f0; have fy1 := kx.f1; have fy2 := kx.f2; clear kx; have kx := (HR.out); have kr0 := kx.c0; have kr1 := kx.c1; have kr2 := kx.c2; have fr0 := kx.f0; have fr1 := kx.f1; have fr2 := kx.f2; clear kx; clear hV) | (go_at_call 26; (with_reducible refine (reduced_c (Below.refl _ _) HO.out.pos HZ.out.2.2 HO.out.sd).mono ?_); rintro e w1 ⟨rfl, hV⟩; replace HX := Aside0.mk (HX.out.below hV); replace HY := Aside0.mk (HY.out.below hV); replace HR := Aside0.mk (HR.out.below hV); replace HW := Aside0.mk (below_step HW.out hV); clear kx0 kx1 kx2 fx0 fx1 fx2 ky0 ky1 ky2 fy0 fy1 fy2 kr0 kr1 kr2 fr0 fr1 fr2; have kx := (HX.out); have kx0 := kx.c0; have kx1 := kx.c1; have kx2 := kx.c2; have fx0 := kx.f0; have fx1 := kx.f1; have fx2 := kx.f2; clear kx; have kx := (HY.out); have ky0 := kx.c0; have ky1 := kx.c1; have ky2 := kx.c2; have fy0 := kx.f0; have fy1 := kx.f1; have fy2 := kx.f2; clear kx; have kx := (HR.out); have kr0 := kx.c0; have kr1 := kx.c1; have kr2 := kx.c2; have fr0 := kx.f0; have fr1 := kx.f1; have fr2 := kx.f2; clear kx; clear hV))); (refine bodyPost_ret (results_bx rfl rfl (HR.out.set _ _ _)) rfl ?_); (exact ⟨by rw [← HZ.out.2.1], below_set3 HW.out (by have := H0.out.size; omega)⟩))); (have HL := Aside0.mk hl); (clear hl); (obtain ⟨z, hz⟩ : ∃ z, X - Y = z := ⟨_, rfl⟩); (have r0 := HO.out.le HN.out HL.out); (rw [hz] at r0); (have HZ := Aside0.mk (And.intro hz (And.intro r0 (HO.out.sx.le (hz ▸ Nat.sub_le _ _))))); (clear r0 hz); (go_wp2_with (first | (go_at_call 47; (with_reducible refine (sub_le_c (Below.refl _ _) HO.out.sx HO.out.sy HL.out HZ.out.1).mono ?_); rintro e w1 ⟨rfl, hV⟩; replace HX := Aside0.mk (HX.out.below hV); replace HY := Aside0.mk (HY.out.below hV); replace HR := Aside0.mk (HR.out.below hV); replace HW := Aside0.mk (below_step HW.out hV); clear kx0 kx1 kx2 fx0 fx1 fx2 ky0 ky1 ky2 fy0 fy1 fy2 kr0 kr1 kr2 fr0 fr1 fr2; have kx := (HX.out); have kx0 := kx.c0; have kx1 := kx.c1; have kx2 := kx.c2; have fx0 := kx.f0; have fx1 := kx.f1; have fx2 := kx.f2; clear kx; have kx := (HY.out); have ky0 := kx.c0; have ky1 := kx.c1; have ky2 := kx.c2; have fy0 := kx.f0; have fy1 := kx.f1; have fy2 := kx.f2; clear kx; have kx := (HR.out); have kr0 := kx.c0; have kr1 := kx.c1; have kr2 := kx.c2; have fr0 := kx.f0; have fr1 := kx.f1; have fr2 := kx.f2; clear kx; clear hV) | (go_at_call 26; (with_reducible refine (reduced_c (Below.refl _ _) HO.out.pos HZ.out.2.2 HO.out.sd).mono ?_); rintro e w1 ⟨rfl, hV⟩; replace HX := Aside0.mk (HX.out.below hV); replace HY := Aside0.mk (HY.out.below hV); replace HR := Aside0.mk (HR.out.below hV); replace HW := Aside0.mk (below_step HW.out hV); clear kx0 kx1 kx2 fx0 fx1 fx2 ky0 ky1 ky2 fy0 fy1 fy2 kr0 kr1 kr2 fr0 fr1 fr2; have kx := (HX.out); have kx0 := kx.c0; have kx1 := kx.c1; have kx2 := kx.c2; have fx0 := kx.f0; have fx1 := kx.f1; have fx2 := kx.f2; clear kx; have kx := (HY.out); have ky0 := kx.c0; have ky1 := kx.c1; have ky2 := kx.c2; have fy0 := kx.f0; have fy1 := kx.f1; have fy2 := kx.f2; clear kx; have kx := (HR.out); have kr0 := kx.c0; have kr1 := kx.c1; have kr2 := kx.c2; have fr0 := kx.f0; have fr1 := kx.f1; have fr2 := kx.f2; clear kx; clear hV))); (refine bodyPost_ret (results_bx rfl rfl (HR.out.set _ _ _)) rfl ?_); (exact ⟨by rw [← HZ.out.2.1], below_set3 HW.out (by have := H0.out.size; omega)⟩)

set_option maxHeartbeats 2000000 in
set_option maxRecDepth 1000000 in
theorem add_diff_c {w0 w : World} {p q : Rat} {N M : Nat} (hB : Below w0.heap.size w0 w) (h1 : Fit N p) (h2 : Fit M q) (hN : N + M + 1 ≤ 1073741824) (he : p.den ≠ q.den) :
    Calls Tryd.prog 24 #[.agg #[.bool (ngv p), .string (enc p.num.natAbs), .string (encD p.den)], .agg #[.bool (ngv q), .string (enc q.num.natAbs), .string (encD q.den)]] w fun e w' => e = .returned (rv (p + q)) ∧ Below w0.heap.size w0 w' := by
  have H0 := Aside0.mk hB; obtain ⟨W, hW, HX, HY, HR, hbW⟩ := box3 w (.bool (ngv p)) (.string (enc p.num.natAbs)) (.string (encD p.den)) (.bool (ngv q)) (.string (enc q.num.natAbs)) (.string (encD q.den)) 27; have HW : Aside0 (Below w0.heap.size w0 W) := ⟨below_step hB hbW⟩; have HE := Aside0.mk hW
  have hden : ((encD p.den).toList == (encD q.den).toList) = false := by
    rw [ba_beq, decide_eq_false_iff_not]
    exact fun h => he (encD_inj p.den_pos q.den_pos h)
  have HA := add_eq (@add_two_den p q)
  have n1 := nb_mul_le h1.num h2.den
  have n2 : nb (q.num.natAbs * p.den) ≤ N + M := Nat.le_trans (nb_mul_le h2.num h1.den) (by omega)
  have n3 := nb_mul_le h1.den h2.den
  have sx0 : Sm p.num.natAbs := ⟨Nat.le_trans h1.num (by omega)⟩
  have sy0 : Sm q.num.natAbs := ⟨Nat.le_trans h2.num (by omega)⟩
  have sd1 : Sm p.den := ⟨Nat.le_trans h1.den (by omega)⟩
  have sd2 : Sm q.den := ⟨Nat.le_trans h2.den (by omega)⟩
  have d1 := p.den_pos
  have d2 := q.den_pos
  have HO : OneDen (ngv p) (ngv q) (p.num.natAbs * q.den) (q.num.natAbs * p.den) (p.den * q.den) (p + q) := ⟨Nat.mul_pos d1 d2, ⟨by omega⟩, ⟨by omega⟩, ⟨by have := nb_add_le n1 n2; omega⟩, ⟨by omega⟩, HA.1, fun h => (HA.2 h).1, fun h => (HA.2 h).2⟩
  obtain ⟨x0, hx⟩ : ∃ x, p.num.natAbs = x := ⟨_, rfl⟩
  obtain ⟨y0, hy⟩ : ∃ x, q.num.natAbs = x := ⟨_, rfl⟩
  obtain ⟨dp, hd⟩ : ∃ x, p.den = x := ⟨_, rfl⟩
  obtain ⟨dq, hd2⟩ : ∃ x, q.den = x := ⟨_, rfl⟩
  obtain ⟨r, hr⟩ : ∃ r, p + q = r := ⟨_, rfl⟩
  obtain ⟨b1, hb1⟩ : ∃ b, ngv p = b := ⟨_, rfl⟩
  obtain ⟨b2, hb2⟩ : ∃ b, ngv q = b := ⟨_, rfl⟩
  simp only [hx, hy, hd, hd2, hr, hb1, hb2] at hden HO HX HY HE sx0 sy0 sd1 sd2 d1 d2 ⊢
  obtain ⟨X, hX⟩ : ∃ x, x0 * dq = x := ⟨_, rfl⟩
  obtain ⟨Y, hY⟩ : ∃ x, y0 * dp = x := ⟨_, rfl⟩
  obtain ⟨d, hd⟩ : ∃ x, dp * dq = x := ⟨_, rfl⟩
  simp only [hX, hY, hd] at HO
  have HM1 : Aside0 (∀ U V : World, Below U.heap.size U V → Calls Tryd.prog 27 #[.string (enc x0), .string (enc dq)] V fun e w' => e = .returned (.string (enc X)) ∧ Below U.heap.size U w') := ⟨fun U V h => hX ▸ mul_s h sx0 sd2⟩
  have HM2 : Aside0 (∀ U V : World, Below U.heap.size U V → Calls Tryd.prog 27 #[.string (enc y0), .string (enc dp)] V fun e w' => e = .returned (.string (enc Y)) ∧ Below U.heap.size U w') := ⟨fun U V h => hY ▸ mul_s h sy0 sd1⟩
  have HM3 : Aside0 (∀ U V : World, Below U.heap.size U V → Calls Tryd.prog 27 #[.string (enc dp), .string (enc dq)] V fun e w' => e = .returned (.string (enc d)) ∧ Below U.heap.size U w') := ⟨fun U V h => hd ▸ mul_s h sd1 sd2⟩
  replace HO := Aside0.mk HO
  have HD := Aside0.mk (And.intro d1 d2)
  clear hB hW hbW hx hy hd hd2 hr he h1 h2 hN hb1 hb2 HA sx0 sy0 sd1 sd2 d1 d2 n1 n2 n3 hX hY
  go_enter Tryd.func24, Tryd.ntmps24
  go_upto_region 1 with (fail)
  rw [HE.out]
  (refine wp_region_below (by kernel_rfl) (by kernel_rfl) ?_); (repeat (refine wpQuiet_step (fun K hK => ?_); go_simp; first | (refine hK _ ?_; clear hK K) | (apply Exists.intro; refine ⟨fun V hV => ?_, hK _ ?_⟩; (focus ((first | rfl | ((have kx := (HX.out.below hV)); have kc0 := kx.c0; have kc1 := kx.c1; have kc2 := kx.c2; clear kx; (have kx := (HY.out.below hV)); have ke0 := kx.c0; have ke1 := kx.c1; have ke2 := kx.c2; clear kx; go_simp; first | rfl | (trace_state; fail))))); clear hK K))); (refine wpQuiet_nil ?_); (intro V hV)
  replace HX := Aside0.mk (HX.out.below hV); replace HY := Aside0.mk (HY.out.below hV); replace HR := Aside0.mk (HR.out.below hV); replace HW := Aside0.mk (below_step HW.out hV)
  clear hV
  have kx := (HX.out); have kx0 := kx.c0; have kx1 := kx.c1; have kx2 := kx.c2; have fx0 := kx.f0; have fx1 := kx.f1; have fx2 := kx.f2; clear kx; have kx := (HY.out); have ky0 := kx.c0; have ky1 := kx.c1; have ky2 := kx.c2; have fy0 := kx.f0; have fy1 := kx.f1; have fy2 := kx.f2; clear kx; have kx := (HR.out); have kr0 := kx.c0; have kr1 := kx.c1; have kr2 := kx.c2; have fr0 := kx.f0; have fr1 := kx.f1; have fr2 := kx.f2; clear kx
  go_upto_region 3 with (fail)
  clear kx0 kx1 kx2 fx0 fx1 fx2 ky0 ky1 ky2 fy0 fy1 fy2 kr0 kr1 kr2 fr0 fr1 fr2
  (refine wp_region_below (by kernel_rfl) (by kernel_rfl) ?_); (repeat (refine wpQuiet_step (fun K hK => ?_); go_simp; first | (refine hK _ ?_; clear hK K) | (apply Exists.intro; refine ⟨fun V hV => ?_, hK _ ?_⟩; (focus ((first | rfl | ((with_reducible exact den_c hV HD.out.1)) | ((with_reducible exact den_c hV HD.out.2)) | ((with_reducible exact HM1.out _ _ hV)) | ((with_reducible exact HM2.out _ _ hV)) | ((have kx := (HX.out.below hV)); have kc0 := kx.c0; have kc1 := kx.c1; have kc2 := kx.c2; clear kx; (have kx := (HY.out.below hV)); have ke0 := kx.c0; have ke1 := kx.c1; have ke2 := kx.c2; clear kx; go_simp; first | rfl | (trace_state; fail))))); clear hK K))); (refine wpQuiet_nil ?_); (intro V hV)
  replace HX := Aside0.mk (HX.out.below hV); replace HY := Aside0.mk (HY.out.below hV); replace HR := Aside0.mk (HR.out.below hV); replace HW := Aside0.mk (below_step HW.out hV)
  clear hV
  go_upto_region 4 with (fail)
  (refine wp_region_below (by kernel_rfl) (by kernel_rfl) ?_); (repeat (refine wpQuiet_step (fun K hK => ?_); go_simp; first | (refine hK _ ?_; clear hK K) | (apply Exists.intro; refine ⟨fun V hV => ?_, hK _ ?_⟩; (focus ((first | rfl | ((with_reducible exact den_c hV HD.out.1)) | ((with_reducible exact den_c hV HD.out.2)) | ((with_reducible exact HM3.out _ _ hV)) | ((have kx := (HX.out.below hV)); have kc0 := kx.c0; have kc1 := kx.c1; have kc2 := kx.c2; clear kx; (have kx := (HY.out.below hV)); have ke0 := kx.c0; have ke1 := kx.c1; have ke2 := kx.c2; clear kx; go_simp; first | rfl | (trace_state; fail))))); clear hK K))); (refine wpQuiet_nil ?_); (intro V hV)
  replace HX := Aside0.mk (HX.out.below hV); replace HY := Aside0.mk (HY.out.below hV); replace HR := Aside0.mk (HR.out.below hV); replace HW := Aside0.mk (below_step HW.out hV)
  clear hV
  have kx := (HX.out); have kx0 := kx.c0; have kx1 := kx.c1; have kx2 := kx.c2; have fx0 := kx.f0; have fx1 := kx.f1; have fx2 := kx.f2; clear kx; have kx := (HY.out); have ky0 := kx.c0; have ky1 := kx.c1; have ky2 := kx.c2; have fy0 := kx.f0; have fy1 := kx.f1; have fy2 := kx.f2; clear kx; have kx := (HR.out); have kr0 := kx.c0; have kr1 := kx.c1; have kr2 := kx.c2; have fr0 := kx.f0; have fr1 := kx.f1; have fr2 := kx.f2; clear kx
  go_upto_region 6 with (fail)
  clear HD HM1 HM2 HM3
  by_cases e : b1 = b2; (focus ((subst e; (have r0 := HO.out.same rfl); (replace HO := Aside0.mk (And.intro r0 HO.out)); (clear r0); go_upto_region 7 with (fail); (clear kx0 kx1 kx2 fx0 fx1 fx2 ky0 ky1 ky2 fy0 fy1 fy2 kr0 kr1 kr2 fr0 fr1 fr2); ((refine wp_region_below_tail 7 (by kernel_rfl) (by kernel_rfl) ?_); (simp only [List.take_succ_cons, List.take_zero, List.drop_succ_cons, List.drop_zero]); (repeat (refine wpQuiet_step (fun K hK => ?_); go_simp; first | (refine hK _ ?_; clear hK K) | (apply Exists.intro; refine ⟨fun V hV => ?_, hK _ ?_⟩; (focus ((first | rfl | ((with_reducible exact add_s hV HO.out.2.sx HO.out.2.sy)) | ((with_reducible exact reduced_c hV HO.out.2.pos HO.out.2.sxy HO.out.2.sd)) | ((have kx := (HX.out.below hV)); have kc0 := kx.c0; have kc1 := kx.c1; have kc2 := kx.c2; clear kx; (have kx := (HY.out.below hV)); have ke0 := kx.c0; have ke1 := kx.c1; have ke2 := kx.c2; clear kx; go_simp; first | rfl | (trace_state; fail))))); clear hK K))); (refine wpQuiet_nil ?_); (intro V hV)); (replace HX := Aside0.mk (HX.out.below hV); replace HY := Aside0.mk (HY.out.below hV); replace HR := Aside0.mk (HR.out.below hV); replace HW := Aside0.mk (below_step HW.out hV)); (have kx := (HR.out); have kr0 := kx.c0; have kr1 := kx.c1; have kr2 := kx.c2; have fr0 := kx.f0; have fr1 := kx.f1; have fr2 := kx.f2; clear kx); go_wp2; (refine bodyPost_ret (results_bx rfl rfl (HR.out.set _ _ _)) rfl ?_); exact ⟨by rw [← HO.out.1], below_set3 HW.out (by have := H0.out.size; omega)⟩))); (have hne := beq_bool_ne e); (have HN := Aside0.mk e); clear e; rcases Nat.lt_or_ge X Y with hl | hl; (focus ((have HL := Aside0.mk hl); (clear hl); (obtain ⟨z, hz⟩ : ∃ z, Y - X = z := ⟨_, rfl⟩); (have r0 := HO.out.ge HN.out (Nat.le_of_lt HL.out)); (rw [hz] at r0); (have HZ := Aside0.mk (And.intro hz (And.intro r0 (HO.out.sy.le (hz ▸ Nat.sub_le _ _))))); (clear r0 hz); (go_wp2_with (first | (go_at_call 47; (with_reducible refine (sub_gt_c (Below.refl _ _) HO.out.sx HO.out.sy HL.out).mono ?_); rintro e w1 ⟨rfl, hV⟩; replace HX := Aside0.mk (HX.out.below hV); replace HY := Aside0.mk (HY.out.below hV); replace HR := Aside0.mk (HR.out.below hV); replace HW := Aside0.mk (below_step HW.out hV); clear kx0 kx1 kx2 fx0 fx1 fx2 ky0 ky1 ky2 fy0 fy1 fy2 kr0 kr1 kr2 fr0 fr1 fr2; have kx := (HX.out); have kx0 := kx.c0; have kx1 := kx.c1; have kx2 := kx.c2; have fx0 := kx.f0; have fx1 := kx.f1; have fx2 := kx.f2; clear kx; have kx := (HY.out); have ky0 := kx.c0; have ky1 := kx.c1; have ky2 := kx.c2; have fy0 := kx.f0; have fy1 := kx.f1; have fy2 := kx.f2; clear kx; have kx := (HR.out); have kr0 := kx.c0; have kr1 := kx.c1; have kr2 := kx.c2; have fr0 := kx.f0; have fr1 := kx.f1; have fr2 := kx.f2; clear kx; clear hV) | (go_at_call 47; (with_reducible refine (sub_le_c (Below.refl _ _) HO.out.sy HO.out.sx (Nat.le_of_lt HL.out) HZ.out.1).mono ?_); rintro e w1 ⟨rfl, hV⟩; replace HX := Aside0.mk (HX.out.below hV); replace HY := Aside0.mk (HY.out.below hV); replace HR := Aside0.mk (HR.out.below hV); replace HW := Aside0.mk (below_step HW.out hV); clear kx0 kx1 kx2 fx0 fx1 fx2 ky0 ky1 ky2 fy0 fy1 fy2 kr0 kr1 kr2 fr0 fr1 fr2; have kx := (HX.out); have kx0 := kx.c0; have kx1 := kx.c1; have kx2 := kx.c2; have fx0 := kx.f0; have fx1 := kx.f1; have fx2 := kx.f2; clear kx; have kx := (HY.out); have ky0 := kx.c0; have ky1 := kx.c1; have ky2 := kx.c2; have fy0 := kx.f0; have fy1 := kx.f1; have fy2 := kx.f2; clear kx; have kx := (HR.out); have kr0 := kx.c0; have kr1 := kx.c1; have kr2 := kx.c2; have fr0 := kx.f0; have fr1 := kx.f1; have fr2 := kx.f2; clear kx; clear hV) | (go_at_call 26; (with_reducible refine (reduced_c (Below.refl _ _) HO.out.pos HZ.out.2.2 HO.out.sd).mono ?_); rintro e w1 ⟨rfl, hV⟩; replace HX := Aside0.mk (HX.out.below hV); replace HY := Aside0.mk (HY.out.below hV); replace HR := Aside0.mk (HR.out.below hV); replace HW := Aside0.mk (below_step HW.out hV); clear kx0 kx1 kx2 fx0 fx1 fx2 ky0 ky1 ky2 fy0 fy1 fy2 kr0 kr1 kr2 fr0 fr1 fr2; have kx := (HX.out); have kx0 := kx.c0; have kx1 := kx.c1; have kx2 := kx.c2; have fx0 := kx.f0; have fx1 := kx.f1; have fx2 := kx.f2; clear kx; have kx := (HY.out); have ky0 := kx.c0; have ky1 := kx.c1; have ky2 := kx.c2; have fy0 := kx.f0; have fy1 := kx.f1; have fy2 := kx.f2; clear kx; have kx := (HR.out); have kr0 := kx.c0; have kr1 := kx.c1; have kr2 := kx.c2; have fr0 := kx.f0; have fr1 := kx.f1; have fr2 := kx.f2; clear kx; clear hV))); (refine bodyPost_ret (results_bx rfl rfl (HR.out.set _ _ _)) rfl ?_); (exact ⟨by rw [← HZ.out.2.1], below_set3 HW.out (by have := H0.out.size; omega)⟩))); (have HL := Aside0.mk hl); (clear hl); (obtain ⟨z, hz⟩ : ∃ z, X - Y = z := ⟨_, rfl⟩); (have r0 := HO.out.le HN.out HL.out); (rw [hz] at r0); (have HZ := Aside0.mk (And.intro hz (And.intro r0 (HO.out.sx.le (hz ▸ Nat.sub_le _ _))))); (clear r0 hz); (go_wp2_with (first | (go_at_call 47; (with_reducible refine (sub_le_c (Below.refl _ _) HO.out.sx HO.out.sy HL.out HZ.out.1).mono ?_); rintro e w1 ⟨rfl, hV⟩; replace HX := Aside0.mk (HX.out.below hV); replace HY := Aside0.mk (HY.out.below hV); replace HR := Aside0.mk (HR.out.below hV); replace HW := Aside0.mk (below_step HW.out hV); clear kx0 kx1 kx2 fx0 fx1 fx2 ky0 ky1 ky2 fy0 fy1 fy2 kr0 kr1 kr2 fr0 fr1 fr2; have kx := (HX.out); have kx0 := kx.c0; have kx1 := kx.c1; have kx2 := kx.c2; have fx0 := kx.f0; have fx1 := kx.f1; have fx2 := kx.f2; clear kx; have kx := (HY.out); have ky0 := kx.c0; have ky1 := kx.c1; have ky2 := kx.c2; have fy0 := kx.f0; have fy1 := kx.f1; have fy2 := kx.f2; clear kx; have kx := (HR.out); have kr0 := kx.c0; have kr1 := kx.c1; have kr2 := kx.c2; have fr0 := kx.f0; have fr1 := kx.f1; have fr2 := kx.f2; clear kx; clear hV) | (go_at_call 26; (with_reducible refine (reduced_c (Below.refl _ _) HO.out.pos HZ.out.2.2 HO.out.sd).mono ?_); rintro e w1 ⟨rfl, hV⟩; replace HX := Aside0.mk (HX.out.below hV); replace HY := Aside0.mk (HY.out.below hV); replace HR := Aside0.mk (HR.out.below hV); replace HW := Aside0.mk (below_step HW.out hV); clear kx0 kx1 kx2 fx0 fx1 fx2 ky0 ky1 ky2 fy0 fy1 fy2 kr0 kr1 kr2 fr0 fr1 fr2; have kx := (HX.out); have kx0 := kx.c0; have kx1 := kx.c1; have kx2 := kx.c2; have fx0 := kx.f0; have fx1 := kx.f1; have fx2 := kx.f2; clear kx; have kx := (HY.out); have ky0 := kx.c0; have ky1 := kx.c1; have ky2 := kx.c2; have fy0 := kx.f0; have fy1 := kx.f1; have fy2 := kx.f2; clear kx; have kx := (HR.out); have kr0 := kx.c0; have kr1 := kx.c1; have kr2 := kx.c2; have fr0 := kx.f0; have fr1 := kx.f1; have fr2 := kx.f2; clear kx; clear hV))); (refine bodyPost_ret (results_bx rfl rfl (HR.out.set _ _ _)) rfl ?_); (exact ⟨by rw [← HZ.out.2.1], below_set3 HW.out (by have := H0.out.size; omega)⟩)
theorem add_c {w0 w : World} {p q : Rat} {N M : Nat} (hB : Below w0.heap.size w0 w) (h1 : Fit N p) (h2 : Fit M q) (hN : N + M + 1 ≤ 1073741824) :
    Calls Tryd.prog 24 #[.agg #[.bool (ngv p), .string (enc p.num.natAbs), .string (encD p.den)], .agg #[.bool (ngv q), .string (enc q.num.natAbs), .string (encD q.den)]] w fun e w' => e = .returned (rv (p + q)) ∧ Below w0.heap.size w0 w' := by
  by_cases he : p.den = q.den
  · exact add_same_c hB h1 h2 hN he
  · exact add_diff_c hB h1 h2 hN he
end Go.Proofs.YtiamgjepcagohaaDoor.P
end
section
/- Package rational: its walks. -/
namespace Go.Proofs.YtiamgjepcagohaaDoor.P
open Go Go.RowKit Go.Proofs.YtiamgjepcagohaaDoorW.PrintWords Go.Proofs.YtiamgjepcagohaaDoorW.PrintLast Go.Proofs.YtiamgjepcagohaaDoorW.PrintMore Go.Proofs.YtiamgjepcagohaaDoor.Ari

set_option maxHeartbeats 2000000 in
set_option maxRecDepth 1000000 in
theorem Add_c {w0 w : World} {b1 b2 : Bool} {s1 t1 s2 t2 : ByteArray} {N M : Nat} (hB : Below w0.heap.size w0 w) (h1 : FitS N s1 t1) (h2 : FitS M s2 t2) (hN : N + M + 1 ≤ 1073741824) :
    Calls Tryd.prog 9 #[.agg #[.bool b1, .string s1, .string t1], .agg #[.bool b2, .string s2, .string t2]] w fun e w' => e = .returned (rv (rval b1 s1 t1 + rval b2 s2 t2)) ∧ Below w0.heap.size w0 w' := by
  have H0 := Aside0.mk hB; obtain ⟨W, hW, HX, HY, HR, hbW⟩ := box3 w (.bool b1) (.string s1) (.string t1) (.bool b2) (.string s2) (.string t2) 27; have HW : Aside0 (Below w0.heap.size w0 W) := ⟨below_step hB hbW⟩; have HE := Aside0.mk hW
  have HC := Aside0.mk (fun V (hV : Below W.heap.size W V) => clean_c (b := b1) hV h1 (by omega))
  have HD := Aside0.mk (fun V (hV : Below W.heap.size W V) => clean_c (b := b2) hV h2 (by omega))
  have HG := Aside0.mk (fun V (hV : Below W.heap.size W V) => add_c hV (h1.val (b := b1)) (h2.val (b := b2)) hN)
  obtain ⟨p, hp⟩ : ∃ p, rval b1 s1 t1 = p := ⟨_, rfl⟩
  obtain ⟨q, hq⟩ : ∃ p, rval b2 s2 t2 = p := ⟨_, rfl⟩
  obtain ⟨r, hr⟩ : ∃ r, p + q = r := ⟨_, rfl⟩
  rw [hp] at HC HG ⊢
  rw [hq] at HD HG ⊢
  rw [hr] at HG ⊢
  clear hB hW hbW hp hq hr h1 h2
  go_enter Tryd.func9, Tryd.ntmps9
  go_upto_region 1 with (fail)
  rw [HE.out]
  (refine wp_region_below_tail 5 (by kernel_rfl) (by kernel_rfl) ?_); (simp only [List.take_succ_cons, List.take_zero, List.drop_succ_cons, List.drop_zero]); (repeat (refine wpQuiet_step (fun K hK => ?_); go_simp; first | (refine hK _ ?_; clear hK K) | (apply Exists.intro; refine ⟨fun V hV => ?_, hK _ ?_⟩; (focus ((first | rfl | ((with_reducible exact HC.out _ hV)) | ((with_reducible exact HD.out _ hV)) | ((with_reducible exact HG.out _ hV)) | ((have kx := (HX.out.below hV)); have kc0 := kx.c0; have kc1 := kx.c1; have kc2 := kx.c2; clear kx; (have kx := (HY.out.below hV)); have ke0 := kx.c0; have ke1 := kx.c1; have ke2 := kx.c2; clear kx; go_simp; first | rfl | (trace_state; fail))))); clear hK K))); (refine wpQuiet_nil ?_); (intro V hV)
  have kx := (HR.out.below hV); have kr0 := kx.c0; have kr1 := kx.c1; have kr2 := kx.c2; have fr0 := kx.f0; have fr1 := kx.f1; have fr2 := kx.f2; clear kx
  go_wp2
  refine bodyPost_ret (results_bx rfl rfl ((HR.out.below hV).set _ _ _)) rfl ?_
  exact ⟨rfl, below_set3 (below_step HW.out hV) (by have := H0.out.size; omega)⟩

set_option maxHeartbeats 2000000 in
set_option maxRecDepth 1000000 in
theorem Subtract_c {w0 w : World} {b1 b2 : Bool} {s1 t1 s2 t2 : ByteArray} {N M : Nat} (hB : Below w0.heap.size w0 w) (h1 : FitS N s1 t1) (h2 : FitS M s2 t2) (hN : N + M + 1 ≤ 1073741824) :
    Calls Tryd.prog 72 #[.agg #[.bool b1, .string s1, .string t1], .agg #[.bool b2, .string s2, .string t2]] w fun e w' => e = .returned (rv (rval b1 s1 t1 - rval b2 s2 t2)) ∧ Below w0.heap.size w0 w' := by
  have H0 := Aside0.mk hB; obtain ⟨W, hW, HX, HY, HR, hbW⟩ := box3 w (.bool b1) (.string s1) (.string t1) (.bool b2) (.string s2) (.string t2) 27; have HW : Aside0 (Below w0.heap.size w0 W) := ⟨below_step hB hbW⟩; have HE := Aside0.mk hW
  have HC := Aside0.mk (fun V (hV : Below W.heap.size W V) => clean_c (b := b1) hV h1 (by omega))
  have HD := Aside0.mk (fun V (hV : Below W.heap.size W V) => clean_c (b := b2) hV h2 (by omega))
  have HN := Aside0.mk (fun V (hV : Below W.heap.size W V) => negate_c (q := rval b2 s2 t2) hV)
  have HG := Aside0.mk (fun V (hV : Below W.heap.size W V) => add_c hV (h1.val (b := b1)) (h2.val (b := b2)).neg hN)
  obtain ⟨p, hp⟩ : ∃ p, rval b1 s1 t1 = p := ⟨_, rfl⟩
  obtain ⟨q, hq⟩ : ∃ p, rval b2 s2 t2 = p := ⟨_, rfl⟩
  rw [hp] at HC HG ⊢
  rw [hq] at HD HG HN ⊢
  obtain ⟨n, hn⟩ : ∃ n, -q = n := ⟨_, rfl⟩
  rw [hn] at HG HN
  obtain ⟨r, hr⟩ : ∃ r, p - q = r := ⟨_, rfl⟩
  have hr2 : p + n = r := by rw [← hn, ← Rat.sub_eq_add_neg, hr]
  rw [hr2] at HG
  rw [hr]
  clear hB hW hbW hp hq hr h1 h2 hr2 hn
  go_enter Tryd.func72, Tryd.ntmps72
  go_upto_region 1 with (fail)
  rw [HE.out]
  (refine wp_region_below_tail 6 (by kernel_rfl) (by kernel_rfl) ?_); (simp only [List.take_succ_cons, List.take_zero, List.drop_succ_cons, List.drop_zero]); (repeat (refine wpQuiet_step (fun K hK => ?_); go_simp; first | (refine hK _ ?_; clear hK K) | (apply Exists.intro; refine ⟨fun V hV => ?_, hK _ ?_⟩; (focus ((first | rfl | ((with_reducible exact HC.out _ hV)) | ((with_reducible exact HD.out _ hV)) | ((with_reducible exact HN.out _ hV)) | ((with_reducible exact HG.out _ hV)) | ((have kx := (HX.out.below hV)); have kc0 := kx.c0; have kc1 := kx.c1; have kc2 := kx.c2; clear kx; (have kx := (HY.out.below hV)); have ke0 := kx.c0; have ke1 := kx.c1; have ke2 := kx.c2; clear kx; go_simp; first | rfl | (trace_state; fail))))); clear hK K))); (refine wpQuiet_nil ?_); (intro V hV)
  have kx := (HR.out.below hV); have kr0 := kx.c0; have kr1 := kx.c1; have kr2 := kx.c2; have fr0 := kx.f0; have fr1 := kx.f1; have fr2 := kx.f2; clear kx
  go_wp2
  refine bodyPost_ret (results_bx rfl rfl ((HR.out.below hV).set _ _ _)) rfl ?_
  exact ⟨rfl, below_set3 (below_step HW.out hV) (by have := H0.out.size; omega)⟩

set_option maxHeartbeats 2000000 in
set_option maxRecDepth 1000000 in
theorem Divide_c {w0 w : World} {b1 b2 : Bool} {s1 t1 s2 t2 : ByteArray} {N M : Nat} (hB : Below w0.heap.size w0 w) (h1 : FitS N s1 t1) (h2 : FitS M s2 t2) (hN : N + M ≤ 1073741824) (h0 : rval b2 s2 t2 ≠ 0) :
    Calls Tryd.prog 55 #[.agg #[.bool b1, .string s1, .string t1], .agg #[.bool b2, .string s2, .string t2]] w fun e w' => e = .returned (.tuple #[rv (rval b1 s1 t1 / rval b2 s2 t2), .bool true]) ∧ Below w0.heap.size w0 w' := by
  have H0 := Aside0.mk hB; obtain ⟨W, hW, HX, HY, HR, hbW⟩ := box3 w (.bool b1) (.string s1) (.string t1) (.bool b2) (.string s2) (.string t2) 27; have HW : Aside0 (Below w0.heap.size w0 W) := ⟨below_step hB hbW⟩; have HE := Aside0.mk hW
  have HC := Aside0.mk (fun V (hV : Below W.heap.size W V) => clean_c (b := b1) hV h1 (by omega))
  have HD := Aside0.mk (fun V (hV : Below W.heap.size W V) => clean_c (b := b2) hV h2 (by omega))
  have F1 := Aside0.mk (h1.val (b := b1))
  have F2 := Aside0.mk (h2.val (b := b2))
  obtain ⟨p, hp⟩ : ∃ p, rval b1 s1 t1 = p := ⟨_, rfl⟩
  obtain ⟨q, hq⟩ : ∃ p, rval b2 s2 t2 = p := ⟨_, rfl⟩
  rw [hp] at HC F1 ⊢
  rw [hq] at HD F2 h0 ⊢
  clear hB hW hbW hp hq
  have HQ := Aside0.mk (div_eq (a := p) h0)
  have p2 := natAbs_num_pos h0
  go_enter Tryd.func55, Tryd.ntmps55
  go_upto_region 1 with (fail)
  rw [HE.out]
  (refine wp_region_below_tail 4 (by kernel_rfl) (by kernel_rfl) ?_); (simp only [List.take_succ_cons, List.take_zero, List.drop_succ_cons, List.drop_zero]); (repeat (refine wpQuiet_step (fun K hK => ?_); go_simp; first | (refine hK _ ?_; clear hK K) | (apply Exists.intro; refine ⟨fun V hV => ?_, hK _ ?_⟩; (focus ((first | rfl | ((with_reducible exact HC.out _ hV)) | ((with_reducible exact HD.out _ hV)) | ((have kx := (HX.out.below hV)); have kc0 := kx.c0; have kc1 := kx.c1; have kc2 := kx.c2; clear kx; (have kx := (HY.out.below hV)); have ke0 := kx.c0; have ke1 := kx.c1; have ke2 := kx.c2; clear kx; go_simp; first | rfl | (trace_state; fail))))); clear hK K))); (refine wpQuiet_nil ?_); (intro V hV)
  have kx := (HX.out.below hV); have kx0 := kx.c0; have kx1 := kx.c1; have kx2 := kx.c2; have fx0 := kx.f0; have fx1 := kx.f1; have fx2 := kx.f2; clear kx
  have kx := (HY.out.below hV); have ky0 := kx.c0; have ky1 := kx.c1; have ky2 := kx.c2; have fy0 := kx.f0; have fy1 := kx.f1; have fy2 := kx.f2; clear kx
  go_upto_region 2 with (fail)
  obtain ⟨W2, hW2, HX2, HY2, HR2, HW2⟩ := box_set2 HX HY HR hV HW H0.out.size (.bool (ngv p)) (.string (enc p.num.natAbs)) (.string (encD p.den)) (.bool (ngv q)) (.string (enc q.num.natAbs)) (.string (encD q.den))
  rw [hW2]
  have HE2 := Aside0.mk hW2
  have S1 : Sm p.num.natAbs := ⟨by have := F1.out.num; omega⟩
  have S2 : Sm q.num.natAbs := ⟨by have := F2.out.num; omega⟩
  have S3 : Sm p.den := ⟨by have := F1.out.den; omega⟩
  have S4 : Sm q.den := ⟨by have := F2.out.den; omega⟩
  have S5 : Sm (p.num.natAbs * q.den) := ⟨Nat.le_trans (nb_mul_le F1.out.num F2.out.den) hN⟩
  have S6 : Sm (p.den * q.num.natAbs) := ⟨Nat.le_trans (nb_mul_le F1.out.den F2.out.num) hN⟩
  have p1 := p.den_pos
  have p4 := q.den_pos
  have p3 := Nat.mul_pos p1 p2
  clear kx0 kx1 kx2 ky0 ky1 ky2 fx0 fx1 fx2 fy0 fy1 fy2 hV hW2 HX HY HR
  (refine wp_region_below_tail 18 (by kernel_rfl) (by kernel_rfl) ?_); (simp only [List.take_succ_cons, List.take_zero, List.drop_succ_cons, List.drop_zero]); (repeat (refine wpQuiet_step (fun K hK => ?_); go_simp; first | (refine hK _ ?_; clear hK K) | (apply Exists.intro; refine ⟨fun V hV => ?_, hK _ ?_⟩; (focus ((first | rfl | ((with_reducible exact den_c hV p1)) | ((with_reducible exact den_c hV p4)) | ((with_reducible exact mul_s hV S1 S4)) | ((with_reducible exact mul_s hV S3 S2)) | ((with_reducible exact Make_pos hV p3 S5 S6)) | ((have kx := (HX2.out.below hV)); have kc0 := kx.c0; have kc1 := kx.c1; have kc2 := kx.c2; clear kx; (have kx := (HY2.out.below hV)); have ke0 := kx.c0; have ke1 := kx.c1; have ke2 := kx.c2; clear kx; go_simp; first | rfl | (trace_state; fail))))); clear hK K))); (refine wpQuiet_nil ?_); (intro V hV)
  have kx := (HR2.out.below hV); have kx0 := kx.c0; have kx1 := kx.c1; have kx2 := kx.c2; have fx0 := kx.f0; have fx1 := kx.f1; have fx2 := kx.f2; clear kx
  go_wp2
  refine bodyPost_ret (results_bx_tmp rfl rfl ((HR2.out.below hV).set _ _ _)) rfl ?_
  refine ⟨?_, below_set3 (below_step HW2.out hV) (by have := H0.out.size; omega)⟩
  rw [← HQ.out]
  rfl

/-! for values that are as they should be -/
theorem Multiply_v {w0 w : World} {p q : Rat} {N M : Nat} (hB : Below w0.heap.size w0 w) (h1 : Fit N p) (h2 : Fit M q) (hN : N + M ≤ 1073741824) :
    Calls Tryd.prog 10 #[rv p, rv q] w fun e w' => e = .returned (rv (p * q)) ∧ Below w0.heap.size w0 w' := by
  have h := Multiply_c (b1 := ngv p) (b2 := ngv q) hB h1.raw h2.raw hN
  rw [rval_rv, rval_rv] at h
  exact h
theorem Add_v {w0 w : World} {p q : Rat} {N M : Nat} (hB : Below w0.heap.size w0 w) (h1 : Fit N p) (h2 : Fit M q) (hN : N + M + 1 ≤ 1073741824) :
    Calls Tryd.prog 9 #[rv p, rv q] w fun e w' => e = .returned (rv (p + q)) ∧ Below w0.heap.size w0 w' := by
  have h := Add_c (b1 := ngv p) (b2 := ngv q) hB h1.raw h2.raw hN
  rw [rval_rv, rval_rv] at h
  exact h
theorem Subtract_v {w0 w : World} {p q : Rat} {N M : Nat} (hB : Below w0.heap.size w0 w) (h1 : Fit N p) (h2 : Fit M q) (hN : N + M + 1 ≤ 1073741824) :
    Calls Tryd.prog 72 #[rv p, rv q] w fun e w' => e = .returned (rv (p - q)) ∧ Below w0.heap.size w0 w' := by
  have h := Subtract_c (b1 := ngv p) (b2 := ngv q) hB h1.raw h2.raw hN
  rw [rval_rv, rval_rv] at h
  exact h
theorem Divide_v {w0 w : World} {p q : Rat} {N M : Nat} (hB : Below w0.heap.size w0 w) (h1 : Fit N p) (h2 : Fit M q) (hN : N + M ≤ 1073741824) (h0 : q ≠ 0) :
    Calls Tryd.prog 55 #[rv p, rv q] w fun e w' => e = .returned (.tuple #[rv (p / q), .bool true]) ∧ Below w0.heap.size w0 w' := by
  have h := Divide_c (b1 := ngv p) (b2 := ngv q) hB h1.raw h2.raw hN (by rw [rval_rv]; exact h0)
  rw [rval_rv, rval_rv] at h
  exact h
theorem Negate_v {w0 w : World} {p : Rat} {N : Nat} (hB : Below w0.heap.size w0 w) (h1 : Fit N p) (hN : N ≤ 1073741824) :
    Calls Tryd.prog 16 #[rv p] w fun e w' => e = .returned (rv (-p)) ∧ Below w0.heap.size w0 w' := by
  have h := Negate_c (b := ngv p) hB h1.raw hN
  rw [rval_rv] at h
  exact h
theorem Sign_v {w0 w : World} {p : Rat} {N : Nat} (hB : Below w0.heap.size w0 w) (h1 : Fit N p) (hN : N ≤ 1073741824) :
    Calls Tryd.prog 21 #[rv p] w fun e w' => e = .returned (.int .i64 (sgn p)) ∧ Below w0.heap.size w0 w' := by
  have h := Sign_c (b := ngv p) hB h1.raw hN
  rw [rval_rv] at h
  exact h
end Go.Proofs.YtiamgjepcagohaaDoor.P
end
