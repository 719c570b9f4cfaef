/- ClMem: lemmas of this claim, of 3 texts. -/
import Derived.Test.YtiamgjepcagohaaDoorClRa2
import Derived.Test.YtiamgjepcagohaaDoorClStep
import Derived.Deep.OwnRows
section
/- Package rational: its walks. -/
namespace Go.Proofs.YtiamgjepcagohaaDoor.P
open Go Go.RowKit Go.Proofs.YtiamgjepcagohaaDoorW.PrintWords Go.Proofs.YtiamgjepcagohaaDoorW.PrintLast Go.Proofs.YtiamgjepcagohaaDoorW.PrintMore Go.Proofs.YtiamgjepcagohaaDoor.Ari

theorem encD_inj {a b : Nat} (ha : 0 < a) (hb : 0 < b) (h : encD a = encD b) : a = b := by
  rw [← sv_encD a ha, ← sv_encD b hb, h]
/-- What add's last part is told: over one denominator. -/
structure OneDen (b1 b2 : Bool) (X Y D : Nat) (r : Rat) : Prop where
  pos : 0 < D
  sx : Sm X
  sy : Sm Y
  sxy : Sm (X + Y)
  sd : Sm D
  same : b1 = b2 → qq b1 (X + Y) D = r
  le : b1 ≠ b2 → Y ≤ X → qq b1 (X - Y) D = r
  ge : b1 ≠ b2 → X ≤ Y → qq b2 (Y - X) D = r
theorem beq_bool_ne {a b : Bool} (h : a ≠ b) : (a == b) = false := by simp [h]
theorem sub_le_c {w0 w : World} {x y z : Nat} (hB : Below w0.heap.size w0 w) (hx : Sm x) (hy : Sm y) (hl : y ≤ x) (hz : x - y = z) :
    Calls Tryd.prog 47 #[.string (enc x), .string (enc y)] w fun e w' => e = .returned (.tuple #[.string (enc z), .bool true]) ∧ Below w0.heap.size w0 w' := by
  have h := sub_s hB hx hy
  rw [if_neg (by omega), decide_eq_true hl, hz] at h
  exact h
theorem sub_gt_c {w0 w : World} {x y : Nat} (hB : Below w0.heap.size w0 w) (hx : Sm x) (hy : Sm y) (hl : x < y) :
    Calls Tryd.prog 47 #[.string (enc x), .string (enc y)] w fun e w' => e = .returned (.tuple #[.string (enc 0), .bool false]) ∧ Below w0.heap.size w0 w' := by
  have h := sub_s hB hx hy
  rw [if_pos hl, decide_eq_false (by omega)] at h
  exact h
set_option maxHeartbeats 2000000 in
set_option maxRecDepth 1000000 in
theorem add_same_c {w0 w : World} {p q : Rat} {N M : Nat} (hB : Below w0.heap.size w0 w) (h1 : Fit N p) (h2 : Fit M q) (hN : N + M + 1 ≤ 1073741824) (he : p.den = q.den) :
    Calls Tryd.prog 24 #[.agg #[.bool (ngv p), .string (enc p.num.natAbs), .string (encD p.den)], .agg #[.bool (ngv q), .string (enc q.num.natAbs), .string (encD q.den)]] w fun e w' => e = .returned (rv (p + q)) ∧ Below w0.heap.size w0 w' := by
  have H0 := Aside0.mk hB; obtain ⟨W, hW, HX, HY, HR, hbW⟩ := box3 w (.bool (ngv p)) (.string (enc p.num.natAbs)) (.string (encD p.den)) (.bool (ngv q)) (.string (enc q.num.natAbs)) (.string (encD q.den)) 27; have HW : Aside0 (Below w0.heap.size w0 W) := ⟨below_step hB hbW⟩; have HE := Aside0.mk hW
  have hden : ((encD p.den).toList == (encD q.den).toList) = true := by rw [he, beq_self_eq_true]
  have HA := add_eq (add_one_den he)
  obtain ⟨X, hx⟩ : ∃ x, p.num.natAbs = x := ⟨_, rfl⟩
  obtain ⟨Y, hy⟩ : ∃ x, q.num.natAbs = x := ⟨_, rfl⟩
  obtain ⟨d, hd⟩ : ∃ x, p.den = x := ⟨_, rfl⟩
  have d0 : 0 < d := hd ▸ p.den_pos
  have hd2 : q.den = d := he ▸ hd
  have nx : nb X ≤ N + M := Nat.le_trans (hx ▸ h1.num) (by omega)
  have ny : nb Y ≤ N + M := Nat.le_trans (hy ▸ h2.num) (by omega)
  have nd : nb d ≤ N + M := Nat.le_trans (hd ▸ h1.den) (by omega)
  have Sx : Sm X := ⟨by omega⟩
  have Sy : Sm Y := ⟨by omega⟩
  have Sd : Sm d := ⟨by omega⟩
  have Sxy : Sm (X + Y) := ⟨by have := nb_add_le nx ny; omega⟩
  obtain ⟨r, hr⟩ : ∃ r, p + q = r := ⟨_, rfl⟩
  obtain ⟨b1, hb1⟩ : ∃ b, ngv p = b := ⟨_, rfl⟩
  obtain ⟨b2, hb2⟩ : ∃ b, ngv q = b := ⟨_, rfl⟩
  simp only [hx, hy, hd, hd2, hr, hb1, hb2] at hden HA HX HY HE ⊢
  have HO : Aside0 (OneDen b1 b2 X Y d r) := ⟨⟨d0, Sx, Sy, Sxy, Sd, HA.1, fun h => (HA.2 h).1, fun h => (HA.2 h).2⟩⟩
  clear hB hW hbW hx hy hd hd2 hr he h1 h2 hN hb1 hb2 nx ny nd HA Sx Sy Sd Sxy
  go_enter Tryd.func24, Tryd.ntmps24
  go_upto_region 1 with (fail)
  rw [HE.out]
  (refine wp_region_below (by kernel_rfl) (by kernel_rfl) ?_); (repeat (refine wpQuiet_step (fun K hK => ?_); go_simp; first | (refine hK _ ?_; clear hK K) | (apply Exists.intro; refine ⟨fun V hV => ?_, hK _ ?_⟩; (focus ((first | rfl | ((have kx := (HX.out.below hV)); have kc0 := kx.c0; have kc1 := kx.c1; have kc2 := kx.c2; clear kx; (have kx := (HY.out.below hV)); have ke0 := kx.c0; have ke1 := kx.c1; have ke2 := kx.c2; clear kx; go_simp; first | rfl | fail)))); clear hK K))); (refine wpQuiet_nil ?_); (intro V hV)
  replace HX := Aside0.mk (HX.out.below hV); replace HY := Aside0.mk (HY.out.below hV); replace HR := Aside0.mk (HR.out.below hV); replace HW := Aside0.mk (below_step HW.out hV)
  have HD : Aside0 (∀ U, Below V.heap.size V U → Calls Tryd.prog 28 #[.agg #[.bool b1, .string (enc X), .string (encD d)]] U fun e w' => e = .returned (.string (enc d)) ∧ Below V.heap.size V w') := ⟨fun U hU => den_c hU d0⟩
  clear hV
  have kx := (HX.out); have kx0 := kx.c0; have kx1 := kx.c1; have kx2 := kx.c2; have fx0 := kx.f0; have fx1 := kx.f1; have fx2 := kx.f2; clear kx; have kx := (HY.out); have ky0 := kx.c0; have ky1 := kx.c1; have ky2 := kx.c2; have fy0 := kx.f0; have fy1 := kx.f1; have fy2 := kx.f2; clear kx; have kx := (HR.out); have kr0 := kx.c0; have kr1 := kx.c1; have kr2 := kx.c2; have fr0 := kx.f0; have fr1 := kx.f1; have fr2 := kx.f2; clear kx
  go_upto_region 6 with (go_at_call 28; (with_reducible refine (HD.out _ (Below.refl _ _)).mono ?_); rintro e w1 ⟨rfl, hV⟩; replace HX := Aside0.mk (HX.out.below hV); replace HY := Aside0.mk (HY.out.below hV); replace HR := Aside0.mk (HR.out.below hV); replace HW := Aside0.mk (below_step HW.out hV); clear kx0 kx1 kx2 fx0 fx1 fx2 ky0 ky1 ky2 fy0 fy1 fy2 kr0 kr1 kr2 fr0 fr1 fr2; have kx := (HX.out); have kx0 := kx.c0; have kx1 := kx.c1; have kx2 := kx.c2; have fx0 := kx.f0; have fx1 := kx.f1; have fx2 := kx.f2; clear kx; have kx := (HY.out); have ky0 := kx.c0; have ky1 := kx.c1; have ky2 := kx.c2; have fy0 := kx.f0; have fy1 := kx.f1; have fy2 := kx.f2; clear kx; have kx := (HR.out); have kr0 := kx.c0; have kr1 := kx.c1; have kr2 := kx.c2; have fr0 := kx.f0; have fr1 := kx.f1; have fr2 := kx.f2; clear kx; clear hV)
  clear HD
  by_cases e : b1 = b2; (focus ((subst e; (have r0 := HO.out.same rfl); (replace HO := Aside0.mk (And.intro r0 HO.out)); (clear r0); go_upto_region 7 with (fail); (clear kx0 kx1 kx2 fx0 fx1 fx2 ky0 ky1 ky2 fy0 fy1 fy2 kr0 kr1 kr2 fr0 fr1 fr2); ((refine wp_region_below_tail 7 (by kernel_rfl) (by kernel_rfl) ?_); (simp only [List.take_succ_cons, List.take_zero, List.drop_succ_cons, List.drop_zero]); (repeat (refine wpQuiet_step (fun K hK => ?_); go_simp; first | (refine hK _ ?_; clear hK K) | (apply Exists.intro; refine ⟨fun V hV => ?_, hK _ ?_⟩; (focus ((first | rfl | ((with_reducible exact add_s hV HO.out.2.sx HO.out.2.sy)) | ((with_reducible exact reduced_c hV HO.out.2.pos HO.out.2.sxy HO.out.2.sd)) | ((have kx := (HX.out.below hV)); have kc0 := kx.c0; have kc1 := kx.c1; have kc2 := kx.c2; clear kx; (have kx := (HY.out.below hV)); have ke0 := kx.c0; have ke1 := kx.c1; have ke2 := kx.c2; clear kx; go_simp; first | rfl | fail)))); clear hK K))); (refine wpQuiet_nil ?_); (intro V hV)); (replace HX := Aside0.mk (HX.out.below hV); replace HY := Aside0.mk (HY.out.below hV); replace HR := Aside0.mk (HR.out.below hV); replace HW := Aside0.mk (below_step HW.out hV)); (have kx := (HR.out); have kr0 := kx.c0; have kr1 := kx.c1; have kr2 := kx.c2; have fr0 := kx.f0; have fr1 := kx.f1; have fr2 := kx.f2; clear kx); go_wp2; (refine bodyPost_ret (results_bx rfl rfl (HR.out.set _ _ _)) rfl ?_); exact ⟨by rw [← HO.out.1], below_set3 HW.out (by have := H0.out.size; omega)⟩))); (have hne := beq_bool_ne e); (have HN := Aside0.mk e); clear e; rcases Nat.lt_or_ge X Y with hl | hl; (focus ((have HL := Aside0.mk hl); (clear hl); (obtain ⟨z, hz⟩ : ∃ z, Y - X = z := ⟨_, rfl⟩); (have r0 := HO.out.ge HN.out (Nat.le_of_lt HL.out)); (rw [hz] at r0); (have HZ := Aside0.mk (And.intro hz (And.intro r0 (HO.out.sy.le (hz ▸ Nat.sub_le _ _))))); (clear r0 hz); (go_wp2_with (first | (go_at_call 47; (with_reducible refine (sub_gt_c (Below.refl _ _) HO.out.sx HO.out.sy HL.out).mono ?_); rintro e w1 ⟨rfl, hV⟩; replace HX := Aside0.mk (HX.out.below hV); replace HY := Aside0.mk (HY.out.below hV); replace HR := Aside0.mk (HR.out.below hV); replace HW := Aside0.mk (below_step HW.out hV); clear kx0 kx1 kx2 fx0 fx1 fx2 ky0 ky1 ky2 fy0 fy1 fy2 kr0 kr1 kr2 fr0 fr1 fr2; have kx := (HX.out); have kx0 := kx.c0; have kx1 := kx.c1; have kx2 := kx.c2; have fx0 := kx.f0; have fx1 := kx.f1; have fx2 := kx.f2; clear kx; have kx := (HY.out); have ky0 := kx.c0; have ky1 := kx.c1; have ky2 := kx.c2; have fy0 := kx.f0; have fy1 := kx.f1; have fy2 := kx.f2; clear kx; have kx := (HR.out); have kr0 := kx.c0; have kr1 := kx.c1; have kr2 := kx.c2; have fr0 := kx.f0; have fr1 := kx.f1; have fr2 := kx.f2; clear kx; clear hV) | (go_at_call 47; (with_reducible refine (sub_le_c (Below.refl _ _) HO.out.sy HO.out.sx (Nat.le_of_lt HL.out) HZ.out.1).mono ?_); rintro e w1 ⟨rfl, hV⟩; replace HX := Aside0.mk (HX.out.below hV); replace HY := Aside0.mk (HY.out.below hV); replace HR := Aside0.mk (HR.out.below hV); replace HW := Aside0.mk (below_step HW.out hV); clear kx0 kx1 kx2 fx0 fx1 fx2 ky0 ky1 ky2 fy0 fy1 fy2 kr0 kr1 kr2 fr0 fr1 fr2; have kx := (HX.out); have kx0 := kx.c0; have kx1 := kx.c1; have kx2 := kx.c2; have fx0 := kx.f0; have fx1 := kx.f1; have fx2 := kx.f2; clear kx; have kx := (HY.out); have ky0 := kx.c0; have ky1 := kx.c1; have ky2 := kx.c2; have fy0 := kx.f0; have fy1 := kx.f1; have fy2 := kx.f2; clear kx; have kx := (HR.out); have kr0 := kx.c0; have kr1 := kx.c1; have kr2 := kx.c2; have fr0 := kx.f0; have fr1 := kx.f1; have fr2 := kx.f2; clear kx; clear hV) | (go_at_call 26; (with_reducible refine (reduced_c (Below.refl _ _) HO.out.pos HZ.out.2.2 HO.out.sd).mono ?_); rintro e w1 ⟨rfl, hV⟩; replace HX := Aside0.mk (HX.out.below hV); replace HY := Aside0.mk (HY.out.below hV); replace HR := Aside0.mk (HR.out.below hV); replace HW := Aside0.mk (below_step HW.out hV); clear kx0 kx1 kx2 fx0 fx1 fx2 ky0 ky1 ky2 fy0 fy1 fy2 kr0 kr1 kr2 fr0 fr1 fr2; have kx := (HX.out); have kx0 := kx.c0; have kx1 := kx.c1; have kx2 := kx.c2; have fx0 := kx.f0; have fx1 := kx.f1; have fx2 := kx.f2; clear kx; have kx := (HY.out); have ky0 := kx.c0; have ky1 := kx.c1; have ky2 := kx.c2; have fy0 := kx.f0; have fy1 := kx.f1; have fy2 := kx.f2; clear kx; have kx := (HR.out); have kr0 := kx.c0; have kr1 := kx.c1; have kr2 := kx.c2; have fr0 := kx.f0; have fr1 := kx.f1; have fr2 := kx.f2; clear kx; clear hV))); (refine bodyPost_ret (results_bx rfl rfl (HR.out.set _ _ _)) rfl ?_); (exact ⟨by rw [← HZ.out.2.1], below_set3 HW.out (by have := H0.out.size; omega)⟩))); (have HL := Aside0.mk hl); (clear hl); (obtain ⟨z, hz⟩ : ∃ z, X - Y = z := ⟨_, rfl⟩); (have r0 := HO.out.le HN.out HL.out); (rw [hz] at r0); (have HZ := Aside0.mk (And.intro hz (And.intro r0 (HO.out.sx.le (hz ▸ Nat.sub_le _ _))))); (clear r0 hz); (go_wp2_with (first | (go_at_call 47; (with_reducible refine (sub_le_c (Below.refl _ _) HO.out.sx HO.out.sy HL.out HZ.out.1).mono ?_); rintro e w1 ⟨rfl, hV⟩; replace HX := Aside0.mk (HX.out.below hV); replace HY := Aside0.mk (HY.out.below hV); replace HR := Aside0.mk (HR.out.below hV); replace HW := Aside0.mk (below_step HW.out hV); clear kx0 kx1 kx2 fx0 fx1 fx2 ky0 ky1 ky2 fy0 fy1 fy2 kr0 kr1 kr2 fr0 fr1 fr2; have kx := (HX.out); have kx0 := kx.c0; have kx1 := kx.c1; have kx2 := kx.c2; have fx0 := kx.f0; have fx1 := kx.f1; have fx2 := kx.f2; clear kx; have kx := (HY.out); have ky0 := kx.c0; have ky1 := kx.c1; have ky2 := kx.c2; have fy0 := kx.f0; have fy1 := kx.f1; have fy2 := kx.f2; clear kx; have kx := (HR.out); have kr0 := kx.c0; have kr1 := kx.c1; have kr2 := kx.c2; have fr0 := kx.f0; have fr1 := kx.f1; have fr2 := kx.f2; clear kx; clear hV) | (go_at_call 26; (with_reducible refine (reduced_c (Below.refl _ _) HO.out.pos HZ.out.2.2 HO.out.sd).mono ?_); rintro e w1 ⟨rfl, hV⟩; replace HX := Aside0.mk (HX.out.below hV); replace HY := Aside0.mk (HY.out.below hV); replace HR := Aside0.mk (HR.out.below hV); replace HW := Aside0.mk (below_step HW.out hV); clear kx0 kx1 kx2 fx0 fx1 fx2 ky0 ky1 ky2 fy0 fy1 fy2 kr0 kr1 kr2 fr0 fr1 fr2; have kx := (HX.out); have kx0 := kx.c0; have kx1 := kx.c1; have kx2 := kx.c2; have fx0 := kx.f0; have fx1 := kx.f1; have fx2 := kx.f2; clear kx; have kx := (HY.out); have ky0 := kx.c0; have ky1 := kx.c1; have ky2 := kx.c2; have fy0 := kx.f0; have fy1 := kx.f1; have fy2 := kx.f2; clear kx; have kx := (HR.out); have kr0 := kx.c0; have kr1 := kx.c1; have kr2 := kx.c2; have fr0 := kx.f0; have fr1 := kx.f1; have fr2 := kx.f2; clear kx; clear hV))); (refine bodyPost_ret (results_bx rfl rfl (HR.out.set _ _ _)) rfl ?_); (exact ⟨by rw [← HZ.out.2.1], below_set3 HW.out (by have := H0.out.size; omega)⟩)

set_option maxHeartbeats 2000000 in
set_option maxRecDepth 1000000 in
theorem add_diff_c {w0 w : World} {p q : Rat} {N M : Nat} (hB : Below w0.heap.size w0 w) (h1 : Fit N p) (h2 : Fit M q) (hN : N + M + 1 ≤ 1073741824) (he : p.den ≠ q.den) :
    Calls Tryd.prog 24 #[.agg #[.bool (ngv p), .string (enc p.num.natAbs), .string (encD p.den)], .agg #[.bool (ngv q), .string (enc q.num.natAbs), .string (encD q.den)]] w fun e w' => e = .returned (rv (p + q)) ∧ Below w0.heap.size w0 w' := by
  have H0 := Aside0.mk hB; obtain ⟨W, hW, HX, HY, HR, hbW⟩ := box3 w (.bool (ngv p)) (.string (enc p.num.natAbs)) (.string (encD p.den)) (.bool (ngv q)) (.string (enc q.num.natAbs)) (.string (encD q.den)) 27; have HW : Aside0 (Below w0.heap.size w0 W) := ⟨below_step hB hbW⟩; have HE := Aside0.mk hW
  have hden : ((encD p.den).toList == (encD q.den).toList) = false := by
    rw [ba_beq, decide_eq_false_iff_not]
    exact fun h => he (encD_inj p.den_pos q.den_pos h)
  have HA := add_eq (@add_two_den p q)
  have n1 := nb_mul_le h1.num h2.den
  have n2 : nb (q.num.natAbs * p.den) ≤ N + M := Nat.le_trans (nb_mul_le h2.num h1.den) (by omega)
  have n3 := nb_mul_le h1.den h2.den
  have sx0 : Sm p.num.natAbs := ⟨Nat.le_trans h1.num (by omega)⟩
  have sy0 : Sm q.num.natAbs := ⟨Nat.le_trans h2.num (by omega)⟩
  have sd1 : Sm p.den := ⟨Nat.le_trans h1.den (by omega)⟩
  have sd2 : Sm q.den := ⟨Nat.le_trans h2.den (by omega)⟩
  have d1 := p.den_pos
  have d2 := q.den_pos
  have HO : OneDen (ngv p) (ngv q) (p.num.natAbs * q.den) (q.num.natAbs * p.den) (p.den * q.den) (p + q) := ⟨Nat.mul_pos d1 d2, ⟨by omega⟩, ⟨by omega⟩, ⟨by have := nb_add_le n1 n2; omega⟩, ⟨by omega⟩, HA.1, fun h => (HA.2 h).1, fun h => (HA.2 h).2⟩
  obtain ⟨x0, hx⟩ : ∃ x, p.num.natAbs = x := ⟨_, rfl⟩
  obtain ⟨y0, hy⟩ : ∃ x, q.num.natAbs = x := ⟨_, rfl⟩
  obtain ⟨dp, hd⟩ : ∃ x, p.den = x := ⟨_, rfl⟩
  obtain ⟨dq, hd2⟩ : ∃ x, q.den = x := ⟨_, rfl⟩
  obtain ⟨r, hr⟩ : ∃ r, p + q = r := ⟨_, rfl⟩
  obtain ⟨b1, hb1⟩ : ∃ b, ngv p = b := ⟨_, rfl⟩
  obtain ⟨b2, hb2⟩ : ∃ b, ngv q = b := ⟨_, rfl⟩
  simp only [hx, hy, hd, hd2, hr, hb1, hb2] at hden HO HX HY HE sx0 sy0 sd1 sd2 d1 d2 ⊢
  obtain ⟨X, hX⟩ : ∃ x, x0 * dq = x := ⟨_, rfl⟩
  obtain ⟨Y, hY⟩ : ∃ x, y0 * dp = x := ⟨_, rfl⟩
  obtain ⟨d, hd⟩ : ∃ x, dp * dq = x := ⟨_, rfl⟩
  simp only [hX, hY, hd] at HO
  have HM1 : Aside0 (∀ U V : World, Below U.heap.size U V → Calls Tryd.prog 27 #[.string (enc x0), .string (enc dq)] V fun e w' => e = .returned (.string (enc X)) ∧ Below U.heap.size U w') := ⟨fun U V h => hX ▸ mul_s h sx0 sd2⟩
  have HM2 : Aside0 (∀ U V : World, Below U.heap.size U V → Calls Tryd.prog 27 #[.string (enc y0), .string (enc dp)] V fun e w' => e = .returned (.string (enc Y)) ∧ Below U.heap.size U w') := ⟨fun U V h => hY ▸ mul_s h sy0 sd1⟩
  have HM3 : Aside0 (∀ U V : World, Below U.heap.size U V → Calls Tryd.prog 27 #[.string (enc dp), .string (enc dq)] V fun e w' => e = .returned (.string (enc d)) ∧ Below U.heap.size U w') := ⟨fun U V h => hd ▸ mul_s h sd1 sd2⟩
  replace HO := Aside0.mk HO
  have HD := Aside0.mk (And.intro d1 d2)
  clear hB hW hbW hx hy hd hd2 hr he h1 h2 hN hb1 hb2 HA sx0 sy0 sd1 sd2 d1 d2 n1 n2 n3 hX hY
  go_enter Tryd.func24, Tryd.ntmps24
  go_upto_region 1 with (fail)
  rw [HE.out]
  (refine wp_region_below (by kernel_rfl) (by kernel_rfl) ?_); (repeat (refine wpQuiet_step (fun K hK => ?_); go_simp; first | (refine hK _ ?_; clear hK K) | (apply Exists.intro; refine ⟨fun V hV => ?_, hK _ ?_⟩; (focus ((first | rfl | ((have kx := (HX.out.below hV)); have kc0 := kx.c0; have kc1 := kx.c1; have kc2 := kx.c2; clear kx; (have kx := (HY.out.below hV)); have ke0 := kx.c0; have ke1 := kx.c1; have ke2 := kx.c2; clear kx; go_simp; first | rfl | fail)))); clear hK K))); (refine wpQuiet_nil ?_); (intro V hV)
  replace HX := Aside0.mk (HX.out.below hV); replace HY := Aside0.mk (HY.out.below hV); replace HR := Aside0.mk (HR.out.below hV); replace HW := Aside0.mk (below_step HW.out hV)
  clear hV
  have kx := (HX.out); have kx0 := kx.c0; have kx1 := kx.c1; have kx2 := kx.c2; have fx0 := kx.f0; have fx1 := kx.f1; have fx2 := kx.f2; clear kx; have kx := (HY.out); have ky0 := kx.c0; have ky1 := kx.c1; have ky2 := kx.c2; have fy0 := kx.f0; have fy1 := kx.f1; have fy2 := kx.f2; clear kx; have kx := (HR.out); have kr0 := kx.c0; have kr1 := kx.c1; have kr2 := kx.c2; have fr0 := kx.f0; have fr1 := kx.f1; have fr2 := kx.f2; clear kx
  go_upto_region 3 with (fail)
  clear kx0 kx1 kx2 fx0 fx1 fx2 ky0 ky1 ky2 fy0 fy1 fy2 kr0 kr1 kr2 fr0 fr1 fr2
  (refine wp_region_below (by kernel_rfl) (by kernel_rfl) ?_); (repeat (refine wpQuiet_step (fun K hK => ?_); go_simp; first | (refine hK _ ?_; clear hK K) | (apply Exists.intro; refine ⟨fun V hV => ?_, hK _ ?_⟩; (focus ((first | rfl | ((with_reducible exact den_c hV HD.out.1)) | ((with_reducible exact den_c hV HD.out.2)) | ((with_reducible exact HM1.out _ _ hV)) | ((with_reducible exact HM2.out _ _ hV)) | ((have kx := (HX.out.below hV)); have kc0 := kx.c0; have kc1 := kx.c1; have kc2 := kx.c2; clear kx; (have kx := (HY.out.below hV)); have ke0 := kx.c0; have ke1 := kx.c1; have ke2 := kx.c2; clear kx; go_simp; first | rfl | fail)))); clear hK K))); (refine wpQuiet_nil ?_); (intro V hV)
  replace HX := Aside0.mk (HX.out.below hV); replace HY := Aside0.mk (HY.out.below hV); replace HR := Aside0.mk (HR.out.below hV); replace HW := Aside0.mk (below_step HW.out hV)
  clear hV
  go_upto_region 4 with (fail)
  (refine wp_region_below (by kernel_rfl) (by kernel_rfl) ?_); (repeat (refine wpQuiet_step (fun K hK => ?_); go_simp; first | (refine hK _ ?_; clear hK K) | (apply Exists.intro; refine ⟨fun V hV => ?_, hK _ ?_⟩; (focus ((first | rfl | ((with_reducible exact den_c hV HD.out.1)) | ((with_reducible exact den_c hV HD.out.2)) | ((with_reducible exact HM3.out _ _ hV)) | ((have kx := (HX.out.below hV)); have kc0 := kx.c0; have kc1 := kx.c1; have kc2 := kx.c2; clear kx; (have kx := (HY.out.below hV)); have ke0 := kx.c0; have ke1 := kx.c1; have ke2 := kx.c2; clear kx; go_simp; first | rfl | fail)))); clear hK K))); (refine wpQuiet_nil ?_); (intro V hV)
  replace HX := Aside0.mk (HX.out.below hV); replace HY := Aside0.mk (HY.out.below hV); replace HR := Aside0.mk (HR.out.below hV); replace HW := Aside0.mk (below_step HW.out hV)
  clear hV
  have kx := (HX.out); have kx0 := kx.c0; have kx1 := kx.c1; have kx2 := kx.c2; have fx0 := kx.f0; have fx1 := kx.f1; have fx2 := kx.f2; clear kx; have kx := (HY.out); have ky0 := kx.c0; have ky1 := kx.c1; have ky2 := kx.c2; have fy0 := kx.f0; have fy1 := kx.f1; have fy2 := kx.f2; clear kx; have kx := (HR.out); have kr0 := kx.c0; have kr1 := kx.c1; have kr2 := kx.c2; have fr0 := kx.f0; have fr1 := kx.f1; have fr2 := kx.f2; clear kx
  go_upto_region 6 with (fail)
  clear HD HM1 HM2 HM3
  by_cases e : b1 = b2; (focus ((subst e; (have r0 := HO.out.same rfl); (replace HO := Aside0.mk (And.intro r0 HO.out)); (clear r0); go_upto_region 7 with (fail); (clear kx0 kx1 kx2 fx0 fx1 fx2 ky0 ky1 ky2 fy0 fy1 fy2 kr0 kr1 kr2 fr0 fr1 fr2); ((refine wp_region_below_tail 7 (by kernel_rfl) (by kernel_rfl) ?_); (simp only [List.take_succ_cons, List.take_zero, List.drop_succ_cons, List.drop_zero]); (repeat (refine wpQuiet_step (fun K hK => ?_); go_simp; first | (refine hK _ ?_; clear hK K) | (apply Exists.intro; refine ⟨fun V hV => ?_, hK _ ?_⟩; (focus ((first | rfl | ((with_reducible exact add_s hV HO.out.2.sx HO.out.2.sy)) | ((with_reducible exact reduced_c hV HO.out.2.pos HO.out.2.sxy HO.out.2.sd)) | ((have kx := (HX.out.below hV)); have kc0 := kx.c0; have kc1 := kx.c1; have kc2 := kx.c2; clear kx; (have kx := (HY.out.below hV)); have ke0 := kx.c0; have ke1 := kx.c1; have ke2 := kx.c2; clear kx; go_simp; first | rfl | fail)))); clear hK K))); (refine wpQuiet_nil ?_); (intro V hV)); (replace HX := Aside0.mk (HX.out.below hV); replace HY := Aside0.mk (HY.out.below hV); replace HR := Aside0.mk (HR.out.below hV); replace HW := Aside0.mk (below_step HW.out hV)); (have kx := (HR.out); have kr0 := kx.c0; have kr1 := kx.c1; have kr2 := kx.c2; have fr0 := kx.f0; have fr1 := kx.f1; have fr2 := kx.f2; clear kx); go_wp2; (refine bodyPost_ret (results_bx rfl rfl (HR.out.set _ _ _)) rfl ?_); exact ⟨by rw [← HO.out.1], below_set3 HW.out (by have := H0.out.size; omega)⟩))); (have hne := beq_bool_ne e); (have HN := Aside0.mk e); clear e; rcases Nat.lt_or_ge X Y with hl | hl; (focus ((have HL := Aside0.mk hl); (clear hl); (obtain ⟨z, hz⟩ : ∃ z, Y - X = z := ⟨_, rfl⟩); (have r0 := HO.out.ge HN.out (Nat.le_of_lt HL.out)); (rw [hz] at r0); (have HZ := Aside0.mk (And.intro hz (And.intro r0 (HO.out.sy.le (hz ▸ Nat.sub_le _ _))))); (clear r0 hz); (go_wp2_with (first | (go_at_call 47; (with_reducible refine (sub_gt_c (Below.refl _ _) HO.out.sx HO.out.sy HL.out).mono ?_); rintro e w1 ⟨rfl, hV⟩; replace HX := Aside0.mk (HX.out.below hV); replace HY := Aside0.mk (HY.out.below hV); replace HR := Aside0.mk (HR.out.below hV); replace HW := Aside0.mk (below_step HW.out hV); clear kx0 kx1 kx2 fx0 fx1 fx2 ky0 ky1 ky2 fy0 fy1 fy2 kr0 kr1 kr2 fr0 fr1 fr2; have kx := (HX.out); have kx0 := kx.c0; have kx1 := kx.c1; have kx2 := kx.c2; have fx0 := kx.f0; have fx1 := kx.f1; have fx2 := kx.f2; clear kx; have kx := (HY.out); have ky0 := kx.c0; have ky1 := kx.c1; have ky2 := kx.c2; have fy0 := kx.f0; have fy1 := kx.f1; have fy2 := kx.f2; clear kx; have kx := (HR.out); have kr0 := kx.c0; have kr1 := kx.c1; have kr2 := kx.c2; have fr0 := kx.f0; have fr1 := kx.f1; have fr2 := kx.f2; clear kx; clear hV) | (go_at_call 47; (with_reducible refine (sub_le_c (Below.refl _ _) HO.out.sy HO.out.sx (Nat.le_of_lt HL.out) HZ.out.1).mono ?_); rintro e w1 ⟨rfl, hV⟩; replace HX := Aside0.mk (HX.out.below hV); replace HY := Aside0.mk (HY.out.below hV); replace HR := Aside0.mk (HR.out.below hV); replace HW := Aside0.mk (below_step HW.out hV); clear kx0 kx1 kx2 fx0 fx1 fx2 ky0 ky1 ky2 fy0 fy1 fy2 kr0 kr1 kr2 fr0 fr1 fr2; have kx := (HX.out); have kx0 := kx.c0; have kx1 := kx.c1; have kx2 := kx.c2; have fx0 := kx.f0; have fx1 := kx.f1; have fx2 := kx.f2; clear kx; have kx := (HY.out); have ky0 := kx.c0; have ky1 := kx.c1; have ky2 := kx.c2; have fy0 := kx.f0; have fy1 := kx.f1; have fy2 := kx.f2; clear kx; have kx := (HR.out); have kr0 := kx.c0; have kr1 := kx.c1; have kr2 := kx.c2; have fr0 := kx.f0; have fr1 := kx.f1; have fr2 := kx.f2; clear kx; clear hV) | (go_at_call 26; (with_reducible refine (reduced_c (Below.refl _ _) HO.out.pos HZ.out.2.2 HO.out.sd).mono ?_); rintro e w1 ⟨rfl, hV⟩; replace HX := Aside0.mk (HX.out.below hV); replace HY := Aside0.mk (HY.out.below hV); replace HR := Aside0.mk (HR.out.below hV); replace HW := Aside0.mk (below_step HW.out hV); clear kx0 kx1 kx2 fx0 fx1 fx2 ky0 ky1 ky2 fy0 fy1 fy2 kr0 kr1 kr2 fr0 fr1 fr2; have kx := (HX.out); have kx0 := kx.c0; have kx1 := kx.c1; have kx2 := kx.c2; have fx0 := kx.f0; have fx1 := kx.f1; have fx2 := kx.f2; clear kx; have kx := (HY.out); have ky0 := kx.c0; have ky1 := kx.c1; have ky2 := kx.c2; have fy0 := kx.f0; have fy1 := kx.f1; have fy2 := kx.f2; clear kx; have kx := (HR.out); have kr0 := kx.c0; have kr1 := kx.c1; have kr2 := kx.c2; have fr0 := kx.f0; have fr1 := kx.f1; have fr2 := kx.f2; clear kx; clear hV))); (refine bodyPost_ret (results_bx rfl rfl (HR.out.set _ _ _)) rfl ?_); (exact ⟨by rw [← HZ.out.2.1], below_set3 HW.out (by have := H0.out.size; omega)⟩))); (have HL := Aside0.mk hl); (clear hl); (obtain ⟨z, hz⟩ : ∃ z, X - Y = z := ⟨_, rfl⟩); (have r0 := HO.out.le HN.out HL.out); (rw [hz] at r0); (have HZ := Aside0.mk (And.intro hz (And.intro r0 (HO.out.sx.le (hz ▸ Nat.sub_le _ _))))); (clear r0 hz); (go_wp2_with (first | (go_at_call 47; (with_reducible refine (sub_le_c (Below.refl _ _) HO.out.sx HO.out.sy HL.out HZ.out.1).mono ?_); rintro e w1 ⟨rfl, hV⟩; replace HX := Aside0.mk (HX.out.below hV); replace HY := Aside0.mk (HY.out.below hV); replace HR := Aside0.mk (HR.out.below hV); replace HW := Aside0.mk (below_step HW.out hV); clear kx0 kx1 kx2 fx0 fx1 fx2 ky0 ky1 ky2 fy0 fy1 fy2 kr0 kr1 kr2 fr0 fr1 fr2; have kx := (HX.out); have kx0 := kx.c0; have kx1 := kx.c1; have kx2 := kx.c2; have fx0 := kx.f0; have fx1 := kx.f1; have fx2 := kx.f2; clear kx; have kx := (HY.out); have ky0 := kx.c0; have ky1 := kx.c1; have ky2 := kx.c2; have fy0 := kx.f0; have fy1 := kx.f1; have fy2 := kx.f2; clear kx; have kx := (HR.out); have kr0 := kx.c0; have kr1 := kx.c1; have kr2 := kx.c2; have fr0 := kx.f0; have fr1 := kx.f1; have fr2 := kx.f2; clear kx; clear hV) | (go_at_call 26; (with_reducible refine (reduced_c (Below.refl _ _) HO.out.pos HZ.out.2.2 HO.out.sd).mono ?_); rintro e w1 ⟨rfl, hV⟩; replace HX := Aside0.mk (HX.out.below hV); replace HY := Aside0.mk (HY.out.below hV); replace HR := Aside0.mk (HR.out.below hV); replace HW := Aside0.mk (below_step HW.out hV); clear kx0 kx1 kx2 fx0 fx1 fx2 ky0 ky1 ky2 fy0 fy1 fy2 kr0 kr1 kr2 fr0 fr1 fr2; have kx := (HX.out); have kx0 := kx.c0; have kx1 := kx.c1; have kx2 := kx.c2; have fx0 := kx.f0; have fx1 := kx.f1; have fx2 := kx.f2; clear kx; have kx := (HY.out); have ky0 := kx.c0; have ky1 := kx.c1; have ky2 := kx.c2; have fy0 := kx.f0; have fy1 := kx.f1; have fy2 := kx.f2; clear kx; have kx := (HR.out); have kr0 := kx.c0; have kr1 := kx.c1; have kr2 := kx.c2; have fr0 := kx.f0; have fr1 := kx.f1; have fr2 := kx.f2; clear kx; clear hV))); (refine bodyPost_ret (results_bx rfl rfl (HR.out.set _ _ _)) rfl ?_); (exact ⟨by rw [← HZ.out.2.1], below_set3 HW.out (by have := H0.out.size; omega)⟩)
theorem add_c {w0 w : World} {p q : Rat} {N M : Nat} (hB : Below w0.heap.size w0 w) (h1 : Fit N p) (h2 : Fit M q) (hN : N + M + 1 ≤ 1073741824) :
    Calls Tryd.prog 24 #[.agg #[.bool (ngv p), .string (enc p.num.natAbs), .string (encD p.den)], .agg #[.bool (ngv q), .string (enc q.num.natAbs), .string (encD q.den)]] w fun e w' => e = .returned (rv (p + q)) ∧ Below w0.heap.size w0 w' := by
  by_cases he : p.den = q.den
  · exact add_same_c hB h1 h2 hN he
  · exact add_diff_c hB h1 h2 hN he
end Go.Proofs.YtiamgjepcagohaaDoor.P
end
section
/- Package rational: its walks. -/
namespace Go.Proofs.YtiamgjepcagohaaDoor.P
open Go Go.RowKit Go.Proofs.YtiamgjepcagohaaDoorW.PrintWords Go.Proofs.YtiamgjepcagohaaDoorW.PrintLast Go.Proofs.YtiamgjepcagohaaDoorW.PrintMore Go.Proofs.YtiamgjepcagohaaDoor.Ari

set_option maxHeartbeats 2000000 in
set_option maxRecDepth 1000000 in
theorem Add_c {w0 w : World} {b1 b2 : Bool} {s1 t1 s2 t2 : ByteArray} {N M : Nat} (hB : Below w0.heap.size w0 w) (h1 : FitS N s1 t1) (h2 : FitS M s2 t2) (hN : N + M + 1 ≤ 1073741824) :
    Calls Tryd.prog 9 #[.agg #[.bool b1, .string s1, .string t1], .agg #[.bool b2, .string s2, .string t2]] w fun e w' => e = .returned (rv (rval b1 s1 t1 + rval b2 s2 t2)) ∧ Below w0.heap.size w0 w' := by
  have H0 := Aside0.mk hB; obtain ⟨W, hW, HX, HY, HR, hbW⟩ := box3 w (.bool b1) (.string s1) (.string t1) (.bool b2) (.string s2) (.string t2) 27; have HW : Aside0 (Below w0.heap.size w0 W) := ⟨below_step hB hbW⟩; have HE := Aside0.mk hW
  have HC := Aside0.mk (fun V (hV : Below W.heap.size W V) => clean_c (b := b1) hV h1 (by omega))
  have HD := Aside0.mk (fun V (hV : Below W.heap.size W V) => clean_c (b := b2) hV h2 (by omega))
  have HG := Aside0.mk (fun V (hV : Below W.heap.size W V) => add_c hV (h1.val (b := b1)) (h2.val (b := b2)) hN)
  obtain ⟨p, hp⟩ : ∃ p, rval b1 s1 t1 = p := ⟨_, rfl⟩
  obtain ⟨q, hq⟩ : ∃ p, rval b2 s2 t2 = p := ⟨_, rfl⟩
  obtain ⟨r, hr⟩ : ∃ r, p + q = r := ⟨_, rfl⟩
  rw [hp] at HC HG ⊢
  rw [hq] at HD HG ⊢
  rw [hr] at HG ⊢
  clear hB hW hbW hp hq hr h1 h2
  go_enter Tryd.func9, Tryd.ntmps9
  go_upto_region 1 with (fail)
  rw [HE.out]
  (refine wp_region_below_tail 5 (by kernel_rfl) (by kernel_rfl) ?_); (simp only [List.take_succ_cons, List.take_zero, List.drop_succ_cons, List.drop_zero]); (repeat (refine wpQuiet_step (fun K hK => ?_); go_simp; first | (refine hK _ ?_; clear hK K) | (apply Exists.intro; refine ⟨fun V hV => ?_, hK _ ?_⟩; (focus ((first | rfl | ((with_reducible exact HC.out _ hV)) | ((with_reducible exact HD.out _ hV)) | ((with_reducible exact HG.out _ hV)) | ((have kx := (HX.out.below hV)); have kc0 := kx.c0; have kc1 := kx.c1; have kc2 := kx.c2; clear kx; (have kx := (HY.out.below hV)); have ke0 := kx.c0; have ke1 := kx.c1; have ke2 := kx.c2; clear kx; go_simp; first | rfl | fail)))); clear hK K))); (refine wpQuiet_nil ?_); (intro V hV)
  have kx := (HR.out.below hV); have kr0 := kx.c0; have kr1 := kx.c1; have kr2 := kx.c2; have fr0 := kx.f0; have fr1 := kx.f1; have fr2 := kx.f2; clear kx
  go_wp2
  refine bodyPost_ret (results_bx rfl rfl ((HR.out.below hV).set _ _ _)) rfl ?_
  exact ⟨rfl, below_set3 (below_step HW.out hV) (by have := H0.out.size; omega)⟩

set_option maxHeartbeats 2000000 in
set_option maxRecDepth 1000000 in
theorem Subtract_c {w0 w : World} {b1 b2 : Bool} {s1 t1 s2 t2 : ByteArray} {N M : Nat} (hB : Below w0.heap.size w0 w) (h1 : FitS N s1 t1) (h2 : FitS M s2 t2) (hN : N + M + 1 ≤ 1073741824) :
    Calls Tryd.prog 72 #[.agg #[.bool b1, .string s1, .string t1], .agg #[.bool b2, .string s2, .string t2]] w fun e w' => e = .returned (rv (rval b1 s1 t1 - rval b2 s2 t2)) ∧ Below w0.heap.size w0 w' := by
  have H0 := Aside0.mk hB; obtain ⟨W, hW, HX, HY, HR, hbW⟩ := box3 w (.bool b1) (.string s1) (.string t1) (.bool b2) (.string s2) (.string t2) 27; have HW : Aside0 (Below w0.heap.size w0 W) := ⟨below_step hB hbW⟩; have HE := Aside0.mk hW
  have HC := Aside0.mk (fun V (hV : Below W.heap.size W V) => clean_c (b := b1) hV h1 (by omega))
  have HD := Aside0.mk (fun V (hV : Below W.heap.size W V) => clean_c (b := b2) hV h2 (by omega))
  have HN := Aside0.mk (fun V (hV : Below W.heap.size W V) => negate_c (q := rval b2 s2 t2) hV)
  have HG := Aside0.mk (fun V (hV : Below W.heap.size W V) => add_c hV (h1.val (b := b1)) (h2.val (b := b2)).neg hN)
  obtain ⟨p, hp⟩ : ∃ p, rval b1 s1 t1 = p := ⟨_, rfl⟩
  obtain ⟨q, hq⟩ : ∃ p, rval b2 s2 t2 = p := ⟨_, rfl⟩
  rw [hp] at HC HG ⊢
  rw [hq] at HD HG HN ⊢
  obtain ⟨n, hn⟩ : ∃ n, -q = n := ⟨_, rfl⟩
  rw [hn] at HG HN
  obtain ⟨r, hr⟩ : ∃ r, p - q = r := ⟨_, rfl⟩
  have hr2 : p + n = r := by rw [← hn, ← Rat.sub_eq_add_neg, hr]
  rw [hr2] at HG
  rw [hr]
  clear hB hW hbW hp hq hr h1 h2 hr2 hn
  go_enter Tryd.func72, Tryd.ntmps72
  go_upto_region 1 with (fail)
  rw [HE.out]
  (refine wp_region_below_tail 6 (by kernel_rfl) (by kernel_rfl) ?_); (simp only [List.take_succ_cons, List.take_zero, List.drop_succ_cons, List.drop_zero]); (repeat (refine wpQuiet_step (fun K hK => ?_); go_simp; first | (refine hK _ ?_; clear hK K) | (apply Exists.intro; refine ⟨fun V hV => ?_, hK _ ?_⟩; (focus ((first | rfl | ((with_reducible exact HC.out _ hV)) | ((with_reducible exact HD.out _ hV)) | ((with_reducible exact HN.out _ hV)) | ((with_reducible exact HG.out _ hV)) | ((have kx := (HX.out.below hV)); have kc0 := kx.c0; have kc1 := kx.c1; have kc2 := kx.c2; clear kx; (have kx := (HY.out.below hV)); have ke0 := kx.c0; have ke1 := kx.c1; have ke2 := kx.c2; clear kx; go_simp; first | rfl | fail)))); clear hK K))); (refine wpQuiet_nil ?_); (intro V hV)
  have kx := (HR.out.below hV); have kr0 := kx.c0; have kr1 := kx.c1; have kr2 := kx.c2; have fr0 := kx.f0; have fr1 := kx.f1; have fr2 := kx.f2; clear kx
  go_wp2
  refine bodyPost_ret (results_bx rfl rfl ((HR.out.below hV).set _ _ _)) rfl ?_
  exact ⟨rfl, below_set3 (below_step HW.out hV) (by have := H0.out.size; omega)⟩

set_option maxHeartbeats 2000000 in
set_option maxRecDepth 1000000 in
theorem Divide_c {w0 w : World} {b1 b2 : Bool} {s1 t1 s2 t2 : ByteArray} {N M : Nat} (hB : Below w0.heap.size w0 w) (h1 : FitS N s1 t1) (h2 : FitS M s2 t2) (hN : N + M ≤ 1073741824) (h0 : rval b2 s2 t2 ≠ 0) :
    Calls Tryd.prog 55 #[.agg #[.bool b1, .string s1, .string t1], .agg #[.bool b2, .string s2, .string t2]] w fun e w' => e = .returned (.tuple #[rv (rval b1 s1 t1 / rval b2 s2 t2), .bool true]) ∧ Below w0.heap.size w0 w' := by
  have H0 := Aside0.mk hB; obtain ⟨W, hW, HX, HY, HR, hbW⟩ := box3 w (.bool b1) (.string s1) (.string t1) (.bool b2) (.string s2) (.string t2) 27; have HW : Aside0 (Below w0.heap.size w0 W) := ⟨below_step hB hbW⟩; have HE := Aside0.mk hW
  have HC := Aside0.mk (fun V (hV : Below W.heap.size W V) => clean_c (b := b1) hV h1 (by omega))
  have HD := Aside0.mk (fun V (hV : Below W.heap.size W V) => clean_c (b := b2) hV h2 (by omega))
  have F1 := Aside0.mk (h1.val (b := b1))
  have F2 := Aside0.mk (h2.val (b := b2))
  obtain ⟨p, hp⟩ : ∃ p, rval b1 s1 t1 = p := ⟨_, rfl⟩
  obtain ⟨q, hq⟩ : ∃ p, rval b2 s2 t2 = p := ⟨_, rfl⟩
  rw [hp] at HC F1 ⊢
  rw [hq] at HD F2 h0 ⊢
  clear hB hW hbW hp hq
  have HQ := Aside0.mk (div_eq (a := p) h0)
  have p2 := natAbs_num_pos h0
  go_enter Tryd.func55, Tryd.ntmps55
  go_upto_region 1 with (fail)
  rw [HE.out]
  (refine wp_region_below_tail 4 (by kernel_rfl) (by kernel_rfl) ?_); (simp only [List.take_succ_cons, List.take_zero, List.drop_succ_cons, List.drop_zero]); (repeat (refine wpQuiet_step (fun K hK => ?_); go_simp; first | (refine hK _ ?_; clear hK K) | (apply Exists.intro; refine ⟨fun V hV => ?_, hK _ ?_⟩; (focus ((first | rfl | ((with_reducible exact HC.out _ hV)) | ((with_reducible exact HD.out _ hV)) | ((have kx := (HX.out.below hV)); have kc0 := kx.c0; have kc1 := kx.c1; have kc2 := kx.c2; clear kx; (have kx := (HY.out.below hV)); have ke0 := kx.c0; have ke1 := kx.c1; have ke2 := kx.c2; clear kx; go_simp; first | rfl | fail)))); clear hK K))); (refine wpQuiet_nil ?_); (intro V hV)
  have kx := (HX.out.below hV); have kx0 := kx.c0; have kx1 := kx.c1; have kx2 := kx.c2; have fx0 := kx.f0; have fx1 := kx.f1; have fx2 := kx.f2; clear kx
  have kx := (HY.out.below hV); have ky0 := kx.c0; have ky1 := kx.c1; have ky2 := kx.c2; have fy0 := kx.f0; have fy1 := kx.f1; have fy2 := kx.f2; clear kx
  go_upto_region 2 with (fail)
  obtain ⟨W2, hW2, HX2, HY2, HR2, HW2⟩ := box_set2 HX HY HR hV HW H0.out.size (.bool (ngv p)) (.string (enc p.num.natAbs)) (.string (encD p.den)) (.bool (ngv q)) (.string (enc q.num.natAbs)) (.string (encD q.den))
  rw [hW2]
  have HE2 := Aside0.mk hW2
  have S1 : Sm p.num.natAbs := ⟨by have := F1.out.num; omega⟩
  have S2 : Sm q.num.natAbs := ⟨by have := F2.out.num; omega⟩
  have S3 : Sm p.den := ⟨by have := F1.out.den; omega⟩
  have S4 : Sm q.den := ⟨by have := F2.out.den; omega⟩
  have S5 : Sm (p.num.natAbs * q.den) := ⟨Nat.le_trans (nb_mul_le F1.out.num F2.out.den) hN⟩
  have S6 : Sm (p.den * q.num.natAbs) := ⟨Nat.le_trans (nb_mul_le F1.out.den F2.out.num) hN⟩
  have p1 := p.den_pos
  have p4 := q.den_pos
  have p3 := Nat.mul_pos p1 p2
  clear kx0 kx1 kx2 ky0 ky1 ky2 fx0 fx1 fx2 fy0 fy1 fy2 hV hW2 HX HY HR
  (refine wp_region_below_tail 18 (by kernel_rfl) (by kernel_rfl) ?_); (simp only [List.take_succ_cons, List.take_zero, List.drop_succ_cons, List.drop_zero]); (repeat (refine wpQuiet_step (fun K hK => ?_); go_simp; first | (refine hK _ ?_; clear hK K) | (apply Exists.intro; refine ⟨fun V hV => ?_, hK _ ?_⟩; (focus ((first | rfl | ((with_reducible exact den_c hV p1)) | ((with_reducible exact den_c hV p4)) | ((with_reducible exact mul_s hV S1 S4)) | ((with_reducible exact mul_s hV S3 S2)) | ((with_reducible exact Make_pos hV p3 S5 S6)) | ((have kx := (HX2.out.below hV)); have kc0 := kx.c0; have kc1 := kx.c1; have kc2 := kx.c2; clear kx; (have kx := (HY2.out.below hV)); have ke0 := kx.c0; have ke1 := kx.c1; have ke2 := kx.c2; clear kx; go_simp; first | rfl | fail)))); clear hK K))); (refine wpQuiet_nil ?_); (intro V hV)
  have kx := (HR2.out.below hV); have kx0 := kx.c0; have kx1 := kx.c1; have kx2 := kx.c2; have fx0 := kx.f0; have fx1 := kx.f1; have fx2 := kx.f2; clear kx
  go_wp2
  refine bodyPost_ret (results_bx_tmp rfl rfl ((HR2.out.below hV).set _ _ _)) rfl ?_
  refine ⟨?_, below_set3 (below_step HW2.out hV) (by have := H0.out.size; omega)⟩
  rw [← HQ.out]
  rfl

/-! for values that are as they should be -/
theorem Multiply_v {w0 w : World} {p q : Rat} {N M : Nat} (hB : Below w0.heap.size w0 w) (h1 : Fit N p) (h2 : Fit M q) (hN : N + M ≤ 1073741824) :
    Calls Tryd.prog 10 #[rv p, rv q] w fun e w' => e = .returned (rv (p * q)) ∧ Below w0.heap.size w0 w' := by
  have h := Multiply_c (b1 := ngv p) (b2 := ngv q) hB h1.raw h2.raw hN
  rw [rval_rv, rval_rv] at h
  exact h
theorem Subtract_v {w0 w : World} {p q : Rat} {N M : Nat} (hB : Below w0.heap.size w0 w) (h1 : Fit N p) (h2 : Fit M q) (hN : N + M + 1 ≤ 1073741824) :
    Calls Tryd.prog 72 #[rv p, rv q] w fun e w' => e = .returned (rv (p - q)) ∧ Below w0.heap.size w0 w' := by
  have h := Subtract_c (b1 := ngv p) (b2 := ngv q) hB h1.raw h2.raw hN
  rw [rval_rv, rval_rv] at h
  exact h
theorem Divide_v {w0 w : World} {p q : Rat} {N M : Nat} (hB : Below w0.heap.size w0 w) (h1 : Fit N p) (h2 : Fit M q) (hN : N + M ≤ 1073741824) (h0 : q ≠ 0) :
    Calls Tryd.prog 55 #[rv p, rv q] w fun e w' => e = .returned (.tuple #[rv (p / q), .bool true]) ∧ Below w0.heap.size w0 w' := by
  have h := Divide_c (b1 := ngv p) (b2 := ngv q) hB h1.raw h2.raw hN (by rw [rval_rv]; exact h0)
  rw [rval_rv, rval_rv] at h
  exact h
theorem Negate_v {w0 w : World} {p : Rat} {N : Nat} (hB : Below w0.heap.size w0 w) (h1 : Fit N p) (hN : N ≤ 1073741824) :
    Calls Tryd.prog 16 #[rv p] w fun e w' => e = .returned (rv (-p)) ∧ Below w0.heap.size w0 w' := by
  have h := Negate_c (b := ngv p) hB h1.raw hN
  rw [rval_rv] at h
  exact h
end Go.Proofs.YtiamgjepcagohaaDoor.P
end
section
/- Rows of rational numbers in memory, and slices of such rows. -/
namespace Go.Proofs.YtiamgjepcagohaaDoor.P
open Go Go.RowKit Go.Proofs.YtiamgjepcagohaaDoorW.PrintWords Go.Proofs.YtiamgjepcagohaaDoorW.PrintLast Go.Proofs.YtiamgjepcagohaaDoorW.PrintMore Go.Proofs.YtiamgjepcagohaaDoor.Ari

/-- A number as it stands in memory. -/
abbrev Raw := Bool × ByteArray × ByteArray
abbrev rw_ (q : Rat) : Raw := (ngv q, enc q.num.natAbs, encD q.den)
structure El (W : World) (b o : Nat) (e : Raw) : Prop where
  c0 : W.cell? ⟨b, o, none⟩ = some (.bool e.1)
  c1 : W.cell? ⟨b, o + 1, none⟩ = some (.string e.2.1)
  c2 : W.cell? ⟨b, o + 2, none⟩ = some (.string e.2.2)
section
variable {w W : World} {b o n m : Nat} {e e' : Raw} {S : Nat → Prop}
theorem El.lt (h : El W b o e) : b < W.heap.size := World.block_lt_of_cell? W ⟨b, o, none⟩ h.c0
theorem cell_chg (h : Chg w W S) {b o : Nat} (hb : b < w.heap.size) (hs : ¬ S b) : W.cell? ⟨b, o, none⟩ = w.cell? ⟨b, o, none⟩ := World.cell?_of_block (w := w) (h.block b hb hs)
theorem frozen_chg (h : Chg w W S) {b o : Nat} (hb : b < w.heap.size) (hs : ¬ S b) : W.frozen? ⟨b, o, none⟩ = w.frozen? ⟨b, o, none⟩ := World.frozen?_of_block (w := w) (h.block b hb hs)
theorem El.chg (k : El w b o e) (h : Chg w W S) (hs : ¬ S b) : El W b o e :=
  ⟨(cell_chg h k.lt hs).trans k.c0, (cell_chg h k.lt hs).trans k.c1, (cell_chg h k.lt hs).trans k.c2⟩
theorem El.below (k : El w b o e) (h : Below w.heap.size w W) : El W b o e := k.chg (Chg.of_below h (fun _ => False)) (fun h => h)

/-- A row of m numbers at offset o. -/
structure Row (W : World) (b o m : Nat) (E : Nat → Raw) : Prop where
  el : ∀ k, k < m → El W b (o + k * 3) (E k)
theorem Row.chg {E : Nat → Raw} (k : Row w b o m E) (h : Chg w W S) (hs : ¬ S b) : Row W b o m E := ⟨fun i hi => (k.el i hi).chg h hs⟩
theorem Row.below {E : Nat → Raw} (k : Row w b o m E) (h : Below w.heap.size w W) : Row W b o m E := k.chg (Chg.of_below h (fun _ => False)) (fun h => h)
/-- A row of this call's own: it can be written. -/
structure RowV (W : World) (b m : Nat) (q : Nat → Rat) : Prop where
  lt : b < W.heap.size
  el : ∀ k, k < m → El W b (k * 3) (rw_ (q k))
  fr : ∀ o, W.frozen? ⟨b, o, none⟩ = false
theorem RowV.chg {q : Nat → Rat} (k : RowV w b m q) (h : Chg w W S) (hs : ¬ S b) : RowV W b m q :=
  ⟨Nat.lt_of_lt_of_le k.lt h.size, fun i hi => (k.el i hi).chg h hs, fun o => (frozen_chg h k.lt hs).trans (k.fr o)⟩
theorem RowV.below {q : Nat → Rat} (k : RowV w b m q) (h : Below w.heap.size w W) : RowV W b m q := k.chg (Chg.of_below h (fun _ => False)) (fun h => h)
theorem RowV.congr {q q' : Nat → Rat} (k : RowV w b m q) (h : ∀ i, i < m → q i = q' i) : RowV w b m q' := ⟨k.lt, fun i hi => h i hi ▸ k.el i hi, k.fr⟩
theorem RowV.row {q : Nat → Rat} (k : RowV w b m q) : Row w b 0 m (fun i => rw_ (q i)) := ⟨fun i hi => by rw [Nat.zero_add]; exact k.el i hi⟩
theorem set3_other {b o b' o' : Nat} {u0 u1 u2 : Value} (h : b ≠ b' ∨ o' + 2 < o ∨ o < o') :
    ((((W.setCell ⟨b', o', none⟩ u0).setCell ⟨b', o' + 1, none⟩ u1).setCell ⟨b', o' + 2, none⟩ u2)).cell? ⟨b, o, none⟩ = W.cell? ⟨b, o, none⟩ := by
  rw [World.cell?_setCell_other, World.cell?_setCell_other, World.cell?_setCell_other]
  all_goals intro h2; injection h2 with h3 h4; omega
theorem cell_setn (hf : (W.cell? ⟨b, o, none⟩).isSome = true) (u : Value) : (W.setCell ⟨b, o, none⟩ u).cell? ⟨b, o, none⟩ = some u := by
  obtain ⟨v, hv⟩ := Option.isSome_iff_exists.1 hf
  simp [go_sem, *]
theorem El.set (h : El W b o e) (x : Bool) (s t : ByteArray) : El (((W.setCell ⟨b, o, none⟩ (.bool x)).setCell ⟨b, o + 1, none⟩ (.string s)).setCell ⟨b, o + 2, none⟩ (.string t)) b o (x, s, t) := by
  obtain ⟨h0, h1, h2⟩ := h
  refine ⟨?_, ?_, ?_⟩
  · simp [go_sem, *]
  · simp [go_sem, *]
  · simp [go_sem, *]
theorem El.other (h : El W b o e) {b' o' : Nat} {u0 u1 u2 : Value} (hne : b ≠ b' ∨ o' + 2 < o ∨ o + 2 < o') : El (((W.setCell ⟨b', o', none⟩ u0).setCell ⟨b', o' + 1, none⟩ u1).setCell ⟨b', o' + 2, none⟩ u2) b o e :=
  ⟨(set3_other (by omega)).trans h.c0, (set3_other (by omega)).trans h.c1, (set3_other (by omega)).trans h.c2⟩
theorem RowV.set {q : Nat → Rat} (h : RowV W b m q) {k : Nat} (hk : k < m) (r : Rat) : RowV (((W.setCell ⟨b, k * 3, none⟩ (.bool (ngv r))).setCell ⟨b, k * 3 + 1, none⟩ (.string (enc r.num.natAbs))).setCell ⟨b, k * 3 + 2, none⟩ (.string (encD r.den))) b m (fun i => if i = k then r else q i) := by
  refine ⟨by simpa using h.lt, fun i hi => ?_, fun o => ?_⟩
  · by_cases e : i = k
    · subst e
      rw [if_pos rfl]
      exact (h.el i hi).set _ _ _
    · rw [if_neg e]
      exact (h.el i hi).other (by omega)
  · rw [World.frozen?_setCell, World.frozen?_setCell, World.frozen?_setCell]; exact h.fr o
theorem chg_set3 (h : Chg w W S) {b o : Nat} (hp : S b ∨ w.heap.size ≤ b) (u0 u1 u2 : Value) : Chg w (((W.setCell ⟨b, o, none⟩ u0).setCell ⟨b, o + 1, none⟩ u1).setCell ⟨b, o + 2, none⟩ u2) S :=
  ((h.setCell (p := ⟨b, o, none⟩) hp u0).setCell (p := ⟨b, o + 1, none⟩) hp u1).setCell (p := ⟨b, o + 2, none⟩) hp u2

/-- A slice of n own rows of m numbers each. -/
structure Grid (W : World) (B g n m : Nat) (A C : Nat → Nat) (G : Nat → Nat → Rat) : Prop where
  base : B ≤ g
  lt : g < W.heap.size
  top : ∀ i, i < n → W.cell? ⟨g, i, none⟩ = some (.slice (some ⟨A i, 0, none⟩) m (C i))
  ftop : ∀ o, W.frozen? ⟨g, o, none⟩ = false
  rows : ∀ i, i < n → RowV W (A i) m (G i)
  ge : ∀ i, i < n → B ≤ A i
  ne : ∀ i, i < n → A i ≠ g
  inj : ∀ i j, i < n → j < n → A i = A j → i = j
variable {B g : Nat} {A C : Nat → Nat} {G : Nat → Nat → Rat}
theorem Grid.chg (k : Grid w B g n m A C G) (h : Chg w W S) (hs : ∀ b, B ≤ b → ¬ S b) : Grid W B g n m A C G :=
  ⟨k.base, Nat.lt_of_lt_of_le k.lt h.size, fun i hi => (cell_chg h k.lt (hs _ k.base)).trans (k.top i hi), fun o => (frozen_chg h k.lt (hs _ k.base)).trans (k.ftop o), fun i hi => (k.rows i hi).chg h (hs _ (k.ge i hi)), k.ge, k.ne, k.inj⟩
theorem Grid.chg2 (k : Grid w B g n m A C G) (h : Chg w W S) (hg : ¬ S g) (hA : ∀ i, i < n → ¬ S (A i)) : Grid W B g n m A C G :=
  ⟨k.base, Nat.lt_of_lt_of_le k.lt h.size, fun i hi => (cell_chg h k.lt hg).trans (k.top i hi), fun o => (frozen_chg h k.lt hg).trans (k.ftop o), fun i hi => (k.rows i hi).chg h (hA i hi), k.ge, k.ne, k.inj⟩
theorem Grid.below (k : Grid w B g n m A C G) (h : Below w.heap.size w W) : Grid W B g n m A C G := k.chg (Chg.of_below h (fun _ => False)) (fun _ _ h => h)
theorem Grid.congr {G' : Nat → Nat → Rat} (k : Grid w B g n m A C G) (h : ∀ i, i < n → ∀ j, j < m → G i j = G' i j) : Grid w B g n m A C G' :=
  ⟨k.base, k.lt, k.top, k.ftop, fun i hi => (k.rows i hi).congr (h i hi), k.ge, k.ne, k.inj⟩
/-- One row is written, by whatever leaves all else. -/
theorem Grid.row (k : Grid w B g n m A C G) {r : Nat} (hr : r < n) {q : Nat → Rat} (h : Chg w W (fun b => b = A r)) (hq : RowV W (A r) m q) : Grid W B g n m A C (fun i => if i = r then q else G i) := by
  refine ⟨k.base, Nat.lt_of_lt_of_le k.lt h.size, fun i hi => (cell_chg h k.lt (fun e => k.ne r hr e.symm)).trans (k.top i hi), fun o => (frozen_chg h k.lt (fun e => k.ne r hr e.symm)).trans (k.ftop o), fun i hi => ?_, k.ge, k.ne, k.inj⟩
  by_cases e : i = r
  · subst e
    simpa using hq
  · simp only [if_neg e]
    exact (k.rows i hi).chg h (fun h2 => e (k.inj i r hi hr h2))
end

theorem rat_zero (q : Rat) : (enc q.num.natAbs).toList.isEmpty = decide (q = 0) := by
  rw [empty_enc]
  rw [Bool.eq_iff_iff, decide_eq_true_iff, decide_eq_true_iff, Int.natAbs_eq_zero, Rat.num_eq_zero]
set_option maxHeartbeats 2000000 in
set_option maxRecDepth 1000000 in
theorem isZero_c {w0 w : World} {q : Rat} (hB : Below w0.heap.size w0 w) :
    Calls Tryd.prog 56 #[.agg #[.bool (ngv q), .string (enc q.num.natAbs), .string (encD q.den)]] w fun e w' => e = .returned (.bool (decide (q = 0))) ∧ Below w0.heap.size w0 w' := by
  have H0 := Aside0.mk hB; obtain ⟨W, hW, HX, hbW⟩ := box1 w (.bool (ngv q)) (.string (enc q.num.natAbs)) (.string (encD q.den)) 27; have HW : Aside0 (Below w0.heap.size w0 W) := ⟨below_step hB hbW⟩; have HE := Aside0.mk hW
  have he := rat_zero q
  obtain ⟨s, hs⟩ : ∃ s, enc q.num.natAbs = s := ⟨_, rfl⟩
  rw [hs] at he HX HE ⊢
  obtain ⟨t, ht⟩ : ∃ s, decide (q = 0) = s := ⟨_, rfl⟩
  rw [ht] at he ⊢
  clear hB hW hbW hs ht
  go_enter Tryd.func56, Tryd.ntmps56
  go_upto_region 1 with (fail)
  rw [HE.out]
  have kx := (HX.out); have kx0 := kx.c0; have kx1 := kx.c1; have kx2 := kx.c2; have fx0 := kx.f0; have fx1 := kx.f1; have fx2 := kx.f2; clear kx
  go_wp2
  go_ret
  exact ⟨rfl, HW.out⟩

theorem isZero_t {w0 w : World} {q : Rat} (hB : Below w0.heap.size w0 w) (h : q = 0) :
    Calls Tryd.prog 56 #[.agg #[.bool (ngv q), .string (enc q.num.natAbs), .string (encD q.den)]] w fun e w' => e = .returned (.bool true) ∧ Below w0.heap.size w0 w' := by
  have := isZero_c (q := q) hB
  rwa [decide_eq_true h] at this
theorem isZero_f {w0 w : World} {q : Rat} (hB : Below w0.heap.size w0 w) (h : ¬ q = 0) :
    Calls Tryd.prog 56 #[.agg #[.bool (ngv q), .string (enc q.num.natAbs), .string (encD q.den)]] w fun e w' => e = .returned (.bool false) ∧ Below w0.heap.size w0 w' := by
  have := isZero_c (q := q) hB
  rwa [decide_eq_false h] at this

/-- The first row from i on, of f, whose number in column c is not 0. -/
def pvf (G : Nat → Nat → Rat) (c : Nat) : Nat → Nat → Option Nat
  | 0, _ => none
  | f + 1, i => if G i c = 0 then pvf G c f (i + 1) else some i
def pvI : Option Nat → Int | none => -1 | some i => i

set_option maxHeartbeats 2000000 in
set_option maxRecDepth 1000000 in
theorem pivot_c {w0 w : World} {B g n m cap r c : Nat} {A C : Nat → Nat} {G : Nat → Nat → Rat} (hB : Below w0.heap.size w0 w) (hG : Grid w B g n m A C G) (hr : r ≤ n) (hc : c < m) (hn : n ≤ 1000) (hm : m ≤ 1000) :
    Calls Tryd.prog 54 #[.slice (some ⟨g, 0, none⟩) n cap, .int .i64 r, .int .i64 c] w fun e w' => e = .returned (.int .i64 (pvI (pvf G c (n - r) r))) ∧ Below w0.heap.size w0 w' := by
  have H0 := Aside0.mk hB
  have HG := Aside0.mk hG
  obtain ⟨out, ho⟩ : ∃ x, pvf G c (n - r) r = x := ⟨_, rfl⟩
  rw [ho]
  have HO := Aside0.mk ho
  clear hB hG ho
  go_enter Tryd.func54, Tryd.ntmps54
  go_wp2
  go_loopw [7] (fun v7 wr => ∃ i : Nat, i ≤ n ∧ v7 = .int .i64 i ∧ Aside0 (pvf G c (n - i) i = out) ∧ Aside0 (Below w.heap.size w wr)) (fun v7 _ => n - (intOf v7).toNat)
  case atStart => exact ⟨r, hr, rfl, HO, ⟨Below.refl _ _⟩⟩
  case round =>
    obtain ⟨i, hi, rfl, HP, HV⟩ := hrel
    by_cases hin : i < n
    · have HG1 := Aside0.mk (HG.out.below HV.out)
      have e1 := HG1.out.top i hin
      have e2 := ((HG1.out.rows i hin).el c hc)
      have f0 := e2.c0
      have f1 := e2.c1
      have f2 := e2.c2
      clear e2
      clear HG
      have hf : n - i = (n - (i + 1)) + 1 := by omega
      have HF := Aside0.mk hf
      clear hf hr
      by_cases hz : G i c = 0
      · have HZ := Aside0.mk hz
        clear hz
        go_wp2_with (go_at_call 56; (with_reducible refine (isZero_t (Below.refl _ _) HZ.out).mono ?_); rintro e w1 ⟨rfl, hV⟩; replace HV := Aside0.mk (below_step HV.out hV); clear hV)
        refine ⟨⟨i + 1, hin, rfl, ⟨?_⟩, HV⟩, ?_⟩
        · have := HP.out
          rw [HF.out, pvf, if_pos HZ.out] at this
          exact this
        · simp [intOf]; omega
      · have HZ := Aside0.mk hz
        clear hz
        go_wp2_with (go_at_call 56; (with_reducible refine (isZero_f (Below.refl _ _) HZ.out).mono ?_); rintro e w1 ⟨rfl, hV⟩; replace HV := Aside0.mk (below_step HV.out hV); clear hV)
        go_ret
        have := HP.out
        rw [HF.out, pvf, if_neg HZ.out] at this
        rw [← this]
        exact ⟨rfl, below_step H0.out HV.out⟩
    · obtain rfl : i = n := by omega
      go_wp2
      go_ret
      have := HP.out
      rw [Nat.sub_self] at this
      rw [← this]
      exact ⟨rfl, below_step H0.out HV.out⟩
end Go.Proofs.YtiamgjepcagohaaDoor.P
end
