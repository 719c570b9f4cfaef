/- The reference's long division, by numbers. -/
import Derived.Test.YtiamgjepcagohaaDoorClRtx
namespace Go.Proofs.YtiamgjepcagohaaDoor.P
open Go Go.RowKit Go.Proofs.YtiamgjepcagohaaDoorW.PrintWords Go.Proofs.YtiamgjepcagohaaDoorW.PrintLast Go.Proofs.YtiamgjepcagohaaDoorW.PrintMore Go.Proofs.YtiamgjepcagohaaDoor.Ari
theorem and_low {t : Nat} (h : t < 18446744073709551616) : Go.bits .and .u64 (t : Int) 4294967295 = ((t % 4294967296 : Nat) : Int) := by
  have e : (4294967295 : Nat) = 2 ^ 32 - 1 := by decide
  have h1 : t &&& 4294967295 = t % 4294967296 := by rw [e, Nat.and_two_pow_sub_one_eq_mod]
  show IntKind.u64.wrap ((BitVec.ofInt 64 (t : Int) &&& BitVec.ofInt 64 4294967295).toNat : Int) = _
  rw [bvn rfl, bvn (show (4294967295 : Int) = ((4294967295 : Nat) : Int) from rfl), u64n (by omega) (by have := BitVec.isLt (BitVec.ofNat 64 t &&& BitVec.ofNat 64 4294967295); omega), BitVec.toNat_and, BitVec.toNat_ofNat, BitVec.toNat_ofNat, Nat.mod_eq_of_lt (show t < 2 ^ 64 by omega), Nat.mod_eq_of_lt (show 4294967295 < 2 ^ 64 by omega), h1]
/-- What a round of the long division knows of its digits. -/
structure LPre (N V n i u2 u1 u0 d1 d2 T q G0 R0 : Nat) : Prop where
  eu1 : N / B ^ (i + (n + 2)) % B = u1
  eu0 : N / B ^ (i + (n + 1)) % B = u0
  eu2 : N / B ^ (i + n) % B = u2
  ed1 : V / B ^ (n + 1) % B = d1
  ed2 : V / B ^ n % B = d2
  u1B : u1 < 4294967296
  u0B : u0 < 4294967296
  u2B : u2 < 4294967296
  d1B : d1 < 4294967296
  d2B : d2 < 4294967296
  d1h : 2147483648 ≤ d1
  eT : u1 * 4294967296 + u0 = T
  TB : T < 18446744073709551616
  eq : N / (V * B ^ i) = q
  qB : q < 4294967296
  eG : T / d1 = G0
  eR : T % d1 = R0
  gr : G0 ≤ 4294967297 ∧ R0 < 4294967296 ∧ q ≤ G0 ∧ G0 * d1 + R0 = T
  gt : ∀ G R, G * d1 + R = T → R * 4294967296 + u2 < G * d2 → q < G
  le : ∀ G R, G < 4294967296 → G * d1 + R = T → G * d2 ≤ R * 4294967296 + u2 → G ≤ q + 1
  bb : ∀ G S, G ≤ 4294967295 → 4294967296 ≤ S → G * d2 ≤ S * 4294967296 + u2
  Tle : T ≤ 4294967296 * d1 + 4294967295
  Vp : 0 < V
  N2 : N < B ^ (i + (n + 1) + 2)
theorem lpre {N V n i : Nat} (hV1 : V < B ^ (n + 2)) (hV2 : B ^ (n + 2) ≤ 2 * V) (hN : N < V * B ^ (i + 1)) : ∃ u2 u1 u0 d1 d2 T q G0 R0, LPre N V n i u2 u1 u0 d1 d2 T q G0 R0 := by
  obtain ⟨u1, hu1⟩ : ∃ x : Nat, N / B ^ (i + (n + 2)) % B = x := ⟨_, rfl⟩
  obtain ⟨u0, hu0⟩ : ∃ x : Nat, N / B ^ (i + (n + 1)) % B = x := ⟨_, rfl⟩
  obtain ⟨d1, hdd1⟩ : ∃ x : Nat, V / B ^ (n + 1) % B = x := ⟨_, rfl⟩
  have u1B : u1 < 4294967296 := by rw [← hu1]; exact dgt_lt' _ _
  have u0B : u0 < 4294967296 := by rw [← hu0]; exact dgt_lt' _ _
  have d1B : d1 < 4294967296 := by rw [← hdd1]; exact dgt_lt' _ _
  have hVp : 0 < V := by
    have := B_pos (n + 2)
    omega
  have hdV : V / B ^ (n + 1) = d1 := by
    rw [← hdd1, Nat.mod_eq_of_lt]
    rw [Nat.div_lt_iff_lt_mul (B_pos _), Nat.mul_comm, ← Nat.pow_succ]; exact hV1
  have hd1h : 2147483648 ≤ d1 := by
    rw [← hdV, Nat.le_div_iff_mul_le (B_pos _)]
    rw [Nat.pow_succ] at hV2
    unfold B at *
    omega
  have hN2 : N < B ^ (i + (n + 1) + 2) := by
    calc N < V * B ^ (i + 1) := hN
      _ ≤ B ^ (n + 2) * B ^ (i + 1) := Nat.mul_le_mul_right _ (Nat.le_of_lt hV1)
      _ = B ^ (i + (n + 1) + 2) := by rw [← Nat.pow_add]; congr 1; omega
  obtain ⟨T, hT⟩ : ∃ T, u1 * 4294967296 + u0 = T := ⟨_, rfl⟩
  have hTN : T = N / B ^ (i + n + 1) := by
    rw [← hT, ← hu1, ← hu0]
    exact top2 (o := i) (n := n + 1) hN2
  obtain ⟨q, hq0⟩ : ∃ q, N / (V * B ^ i) = q := ⟨_, rfl⟩
  have hqB : q < 4294967296 := by
    rw [← hq0, Nat.div_lt_iff_lt_mul (Nat.mul_pos hVp (B_pos i))]
    calc N < V * B ^ (i + 1) := hN
      _ = 4294967296 * (V * B ^ i) := by rw [Nat.pow_succ]; unfold B; grind
  have hqT : q ≤ T / d1 := by
    rw [← hq0, hTN, ← hdV]
    exact guess_ge (by rw [hdV]; omega)
  have hTle : T ≤ 4294967296 * d1 + 4294967295 := by
    have h1 : N / B ^ (i + n + 1) < (d1 + 1) * B := by
      rw [Nat.div_lt_iff_lt_mul (B_pos _)]
      have h2 : V < (d1 + 1) * B ^ (n + 1) := by
        rw [← hdV, Nat.add_mul, Nat.one_mul]; exact Nat.lt_div_mul_add (B_pos _)
      calc N < V * B ^ (i + 1) := hN
        _ ≤ (d1 + 1) * B ^ (n + 1) * B ^ (i + 1) := Nat.mul_le_mul_right _ (Nat.le_of_lt h2)
        _ = (d1 + 1) * B * B ^ (i + n + 1) := by rw [Nat.mul_assoc, ← Nat.pow_add, Nat.mul_assoc, ← Nat.pow_succ']; congr 2; omega
    rw [hTN]
    unfold B at h1 ⊢
    omega
  have hTd : T / d1 ≤ 4294967297 := by
    rw [Nat.div_le_iff_le_mul_add_pred (by omega)]
    omega
  obtain ⟨u2, hu2⟩ : ∃ x : Nat, N / B ^ (i + n) % B = x := ⟨_, rfl⟩
  obtain ⟨d2, hdd2⟩ : ∃ x : Nat, V / B ^ n % B = x := ⟨_, rfl⟩
  have u2B : u2 < 4294967296 := by rw [← hu2]; exact dgt_lt' _ _
  have d2B : d2 < 4294967296 := by rw [← hdd2]; exact dgt_lt' _ _
  refine ⟨u2, u1, u0, d1, d2, T, q, T / d1, T % d1, hu1, hu0, hu2, hdd1, hdd2, u1B, u0B, u2B, d1B, d2B, hd1h, hT, by omega, hq0, hqB, rfl, rfl, ?_, ?_, ?_, ?_, hTle, hVp, hN2⟩
  · have h1 := Nat.mod_lt T (show 0 < d1 by omega)
    exact ⟨hTd, by omega, hqT, by rw [Nat.mul_comm]; exact Nat.div_add_mod _ _⟩
  · intro G R h h'
    rw [← hq0]
    refine guess_gt (n := n) (R := R) hVp ?_ ?_
    · rw [hdV, h, hTN]
    · rw [hu2, hdd2]; exact h'
  · intro G R hG h h'
    rw [← hq0]
    refine guess_le (n := n) (R := R) hG ?_ ?_ ?_
    · have := (Nat.le_div_iff_mul_le (B_pos (n + 1))).1 (show d1 ≤ V / B ^ (n + 1) by rw [hdV]; exact Nat.le_refl _)
      refine Nat.le_trans ?_ this
      exact Nat.le_mul_of_pos_left _ (by omega)
    · rw [hdV, h, hTN]
    · rw [hu2, hdd2]; exact h'
  · intro G S h1 h2
    have h3 : G * d2 ≤ 4294967295 * 4294967295 := Nat.mul_le_mul h1 (by omega)
    omega
theorem made_of2 {W w' : World} {ty n : Nat} {v : Value} (hR : Kd.R (Kd.int .u32) ty w' W.heap.size (fun _ => True) v (List.replicate ((n : Int) + 2).toNat 0)) :
    ∃ g cap, v = .slice (some ⟨g, 0, none⟩) (n + 2) cap ∧ W.heap.size ≤ g ∧ g < w'.heap.size ∧ Aside0 (Kd.R (Kd.int .u32) ty w' W.heap.size (fun _ => True) (.slice (some ⟨g, 0, none⟩) (n + 2) cap) (digN (n + 2) 0)) := by
  rw [show ((n : Int) + 2).toNat = n + 2 by omega, digN_zero] at hR
  obtain ⟨g, cap, rfl, h1, h2, _⟩ := Kd.R_form hR (by rw [length_digN]; omega)
  rw [length_digN] at hR ⊢
  exact ⟨g, cap, rfl, h1, h2, ⟨hR⟩⟩
set_option maxHeartbeats 8000000 in
set_option maxRecDepth 1000000 in
theorem rlong_calls (x y n m : Nat) (A0 A1 : Option Addr) (c0 c1 : Nat) (w : World) (hx : Kd.C (Kd.int .u32) w A0 (n + 2 + m) (dig x)) (hc0 : n + 2 + m ≤ c0) (hy : Kd.C (Kd.int .u32) w A1 (n + 2) (dig y)) (hc1 : n + 2 ≤ c1)
    (hxs : nl x ≤ 17592186044416) (hle : y ≤ x) (hn : nl y = n + 2) (hm : nl x = n + 2 + m) :
    Calls Tryd.prog 102 #[.slice A0 (n + 2 + m) c0, .slice A1 (n + 2) c1] w fun e w' => ∃ v0 v1, e = .returned (.tuple #[v0, v1]) ∧ Rd w' v0 (dig (x / y)) ∧ Rd w' v1 (dig (x % y)) ∧ Below w.heap.size w w' := by
  obtain ⟨ad, eA, hcell0⟩ := Kd.at_int hy ((n + 1 : Nat) : Int) (by omega) (by omega)
  subst eA
  obtain ⟨d1, hd1⟩ : ∃ d, y / B ^ (n + 1) % B = d := ⟨_, rfl⟩
  have hq : rd (dig y) ((n + 1 : Nat) : Int) = (d1 : Int) := by rw [rd_dig (by omega), hd1]
  rw [hq, Int.toNat_natCast] at hcell0
  have hcell : w.cell? ⟨ad.block, ad.off + (n + 1), none⟩ = some (.int .u32 (d1 : Int)) := by simpa [Addr.add] using hcell0
  have hylt : y < B ^ (n + 2) := by rw [← hn]; exact nl_lt y
  have hyge : B ^ (n + 1) ≤ y := by
    have h0 : y ≠ 0 := by intro h; rw [h, nl_zero] at hn; omega
    have := nl_ge h0
    rwa [hn] at this
  have hd1' : y / B ^ (n + 1) = d1 := by
    rw [← hd1, Nat.mod_eq_of_lt]
    rw [Nat.div_lt_iff_lt_mul (B_pos _), Nat.mul_comm, ← Nat.pow_succ]; exact hylt
  have hd1p : 0 < d1 := by rw [← hd1']; exact Nat.div_pos hyge (B_pos _)
  have hd1B : d1 < 4294967296 := by rw [← hd1]; exact dgt_lt' _ _
  have hs1 : ∀ W, Below w.heap.size w W → ∀ z : Nat, z < 32 → Calls Tryd.prog 107 #[.slice (some ad) (n + 2) c1, .int .u64 (z : Int)] W fun e w' => ∃ g cap, e = .returned (.slice (some ⟨g, 0, none⟩) (n + 3) cap) ∧ W.heap.size ≤ g ∧ g < w'.heap.size ∧ Aside0 (Kd.R (Kd.int .u32) 85 w' W.heap.size (fun _ => True) (.slice (some ⟨g, 0, none⟩) (n + 3) cap) (digN (n + 3) (y * 2 ^ z))) ∧ Aside0 (Below W.heap.size W w') := by
    intro W hb z hz
    have := rshifted_calls (w := W) (x := y) (A0 := some ad) (c0 := c1) (s := z) (by rw [hn]; exact Kd.C_below hy hb) (by rw [hn]; exact hc1) hz (by omega)
    rw [hn] at this
    exact this.mono fun e w' ⟨v, he, hR, hb⟩ => form_of he hR (by omega) hb
  have hs2 : ∀ W, Below w.heap.size w W → ∀ z : Nat, z < 32 → Calls Tryd.prog 107 #[.slice A0 (n + 2 + m) c0, .int .u64 (z : Int)] W fun e w' => ∃ g cap, e = .returned (.slice (some ⟨g, 0, none⟩) (n + 2 + m + 1) cap) ∧ W.heap.size ≤ g ∧ g < w'.heap.size ∧ Aside0 (Kd.R (Kd.int .u32) 85 w' W.heap.size (fun _ => True) (.slice (some ⟨g, 0, none⟩) (n + 2 + m + 1) cap) (digN (n + 2 + m + 1) (x * 2 ^ z))) ∧ Aside0 (Below W.heap.size W w') := by
    intro W hb z hz
    have := rshifted_calls (w := W) (x := x) (A0 := A0) (c0 := c0) (s := z) (by rw [hm]; exact Kd.C_below hx hb) (by rw [hm]; exact hc0) hz hxs
    rw [hm] at this
    exact this.mono fun e w' ⟨v, he, hR, hb⟩ => form_of he hR (by omega) hb
  have HS1 := Aside0.mk hs1
  have HS2 := Aside0.mk hs2
  have Hm := Aside0.mk hm
  have Hn := Aside0.mk hn
  have Hd1 := Aside0.mk hd1'
  clear hs1 hs2 hx hy hq hd1 hm hn hylt hyge hd1' hcell0
  have hnm : n + 2 + m ≤ 17592186044416 := by have := Hm.out; omega
  have z4 : IntKind.i64.wrap ((n : Int) + 2 - 1) = (n : Int) + 1 := by rw [i64_w, i64n (by omega) (by omega)]; omega
  have z5 : 0 ≤ (n : Int) + 1 := by omega
  have z6 : ((n : Int) + 1).toNat = n + 1 := by omega
  have z7 : (n : Int) + 1 < (n : Int) + 2 := by omega
  go_enter Tryd.func102, Tryd.ntmps102
  go_wp2
  go_loopw [7] (fun v7 wr => ∃ z : Nat, v7 = .int .u64 (z : Int) ∧ Aside0 (z < 32 ∧ d1 * 2 ^ z < 4294967296) ∧ w = wr) (fun v7 _ => 32 - (intOf v7).toNat)
  case atStart => exact ⟨0, rfl, ⟨by omega, by omega⟩, rfl⟩
  case round =>
    obtain ⟨z, rfl, HZ, rfl⟩ := hrel
    obtain ⟨D, hD⟩ : ∃ D, d1 * 2 ^ z = D := ⟨_, rfl⟩
    have hDB : D < 4294967296 := by have := HZ.out.2; omega
    have hD0 : (d1 : Int) * 2 ^ z = (D : Int) := by rw [← hD]; simp
    have HD := Aside0.mk hD
    clear hD
    have hz0 : (0 : Int) ≤ (z : Int) := by omega
    have hz1 : (z : Int) ≤ 32 := by have := HZ.out; omega
    have hz2 : z < 32 := HZ.out.1
    by_cases hlt : D < 2147483648
    · have c1b : decide ((D : Int) < 2147483648) = true := decide_eq_true (by omega)
      have hz3 : z + 1 < 32 ∧ d1 * 2 ^ (z + 1) < 4294967296 := by
        have h1 := HD.out
        have h2 : d1 * 2 ^ (z + 1) = 2 * D := by rw [Nat.pow_succ, ← h1]; grind
        refine ⟨?_, by omega⟩
        rcases Nat.lt_or_ge (z + 1) 32 with h | h
        · exact h
        · exfalso
          obtain rfl : z = 31 := by omega
          have : 1 * 2 ^ 31 ≤ d1 * 2 ^ 31 := Nat.mul_le_mul_right _ hd1p
          omega
      have HZ3 := Aside0.mk hz3
      clear hz3
      go_wp2
      go_roundw
      case rel => exact ⟨z + 1, by go_num, HZ3, trivial⟩
      case measure => simp [intOf]; omega
    · have c1b : decide ((D : Int) < 2147483648) = false := decide_eq_false (by omega)
      have HLOW : Aside0 (2147483648 ≤ D) := ⟨by omega⟩
      clear hlt
      go_upto_if 35 with (fail)
      clear hD0 hz0 hz1
      have y1 : 0 ≤ (n : Int) + 2 := by omega
      have y2 : ((n : Int) + 2).toNat = n + 2 := by omega
      go_upto_region 6 with (go_at_call 107; (with_reducible refine (HS2.out _ (Below.refl _ _) z hz2).mono ?_); rintro e w1 ⟨gu, capu, rfl, hgu1, hgu2, HRu, HB1⟩)
      have hn3 : ∀ cap : Nat, n + 3 ≤ cap → (n : Int) + 2 ≤ (cap : Int) ∧ n + 2 ≤ cap := fun cap h => ⟨by omega, by omega⟩
      go_upto_region 7 with (go_at_call 107; (with_reducible refine (HS1.out _ HB1.out z hz2).mono ?_); rintro e w2 ⟨gd, capd, rfl, hgd1, hgd2, HRd, HB2⟩; have hcd := (Kd.R_reads' HRd.out).2.1; obtain ⟨hcd1, hcd2⟩ := hn3 capd hcd; clear hcd)
      have zz : (n : Int) + 2 + (m : Int) - ((n : Int) + 2) = (m : Int) := by omega
      go_upto_block 2 with ((with_reducible refine gate_dst (N := 51) rfl ?_); refine Kd.R_make (Kd.int .u32) w2.heap.size 85 rfl (N := 51) rfl 82 _ _ rfl ((m : Int) + 1) rfl rfl Tryd.underlying82 (.int .u32 0) 4 info85 rfl (by decide) (by omega) 0 (ok := fun _ => True) (okp := fun _ => True) rfl (fun _ hk => hk) trivial (by omega) (by omega) (Below.refl _ _) (Nat.le_refl _) ?_; intro vq w3 hRq hb3 _ _; have HB3 := Aside0.mk hb3; obtain ⟨gq, capq, evq, hgq1, hgq2, HRq⟩ := made_of hRq; clear hRq hb3; subst evq)
      have hsz1 : w.heap.size ≤ w1.heap.size := HB1.out.size
      have hsz2 : w1.heap.size ≤ w2.heap.size := HB2.out.size
      have hsz3 : w2.heap.size ≤ w3.heap.size := HB3.out.size
      obtain ⟨V, hV⟩ : ∃ V, y * 2 ^ z = V := ⟨_, rfl⟩
      obtain ⟨X, hX⟩ : ∃ X, x * 2 ^ z = X := ⟨_, rfl⟩
      have HV1 : Aside0 (V < B ^ (n + 2)) := ⟨by rw [← hV]; exact shl_lt Hd1.out hz2 HZ.out.2⟩
      have HV2 : Aside0 (B ^ (n + 2) ≤ 2 * V) := ⟨by rw [← hV]; exact shl_ge Hd1.out (by rw [HD.out]; exact HLOW.out)⟩
      have HXV : Aside0 (X < V * B ^ (m + 1)) := ⟨by rw [← hX]; exact xv_lt (by have h1 := nl_lt x; rwa [Hm.out] at h1) hz2 HV2.out⟩
      have HDc : Aside0 (∀ W, Chg w3 W (fun k => k = gu ∨ k = gq) → ∀ j, j < n + 2 → W.cell? ⟨gd, j, none⟩ = some (.int .u32 ((V / B ^ j % B : Nat) : Int))) := ⟨fun W hk j hj => by
        have h1 := (Kd.R_celln 0 HRd.out (j : Int) (by omega) (by omega)).1
        rw [Int.toNat_natCast] at h1
        have h2 : rdOf 0 (digN (n + 3) (y * 2 ^ z)) (j : Int) = ((V / B ^ j % B : Nat) : Int) := by rw [hV]; exact rd_digN (by omega)
        rw [h2] at h1
        have h3 := (Chg.of_below HB3.out (fun k => k = gu ∨ k = gq)).then_ hk (fun _ h => .inl h)
        refine chg_cell h1 h3 ?_
        intro h
        have h4 : gd = gu ∨ gd = gq := h
        clear h1 h2 h3
        omega⟩
      rw [hX] at HRu
      have HRu3 : Aside0 (Kd.R (Kd.int .u32) 85 w3 w.heap.size (fun k => k = gu) (.slice (some ⟨gu, 0, none⟩) (n + 2 + m + 1) capu) (digN (n + 2 + m + 1) X)) := ⟨tight (Kd.R_below HRu.out (below_step HB2.out HB3.out))⟩
      have HRq3 : Aside0 (Kd.R (Kd.int .u32) 85 w3 w.heap.size (fun k => k = gq) (.slice (some ⟨gq, 0, none⟩) (m + 1) capq) (digN (m + 1) 0)) := ⟨tight (Kd.R_lower HRq.out (by omega))⟩
      have HVX : Aside0 (y * 2 ^ z = V ∧ x * 2 ^ z = X) := ⟨hV, hX⟩
      have HBW : Aside0 (Below w.heap.size w w3) := ⟨below_step HB1.out (below_step HB2.out HB3.out)⟩
      have hcu := (Kd.R_reads' HRu3.out).2.1
      have hug : gu ≠ gq := by omega
      have hdu : gd ≠ gu := by omega
      clear hV hX HRd HRu HRq HS1 HS2 Hd1 HB1 HB2 HB3 zz hcell hd1p hn3 z4 z5 z6 z7 hcd2
      go_wp2
      go_loopw [11] (fun v11 wr => ∃ (j : Nat) (t : Int), j ≤ m + 1 ∧ v11 = .int .i64 t ∧ Aside0 (t = (j : Int) - 1) ∧ Aside0 (Kd.R (Kd.int .u32) 85 wr w.heap.size (fun k => k = gu) (.slice (some ⟨gu, 0, none⟩) (n + 2 + m + 1) capu) (digN (n + 2 + m + 1) (X % (V * B ^ j)))) ∧ Aside0 (Kd.R (Kd.int .u32) 85 wr w.heap.size (fun k => k = gq) (.slice (some ⟨gq, 0, none⟩) (m + 1) capq) (digN (m + 1) (X / (V * B ^ j) * B ^ j))) ∧ Aside0 (Chg w3 wr (fun k => k = gu ∨ k = gq))) (fun v11 _ => (intOf v11 + 1).toNat)
      case atStart =>
        refine ⟨m + 1, (m : Int), by omega, rfl, ⟨by omega⟩, ⟨?_⟩, ⟨?_⟩, ⟨Chg.refl _ _⟩⟩
        · rw [Nat.mod_eq_of_lt HXV.out]; exact HRu3.out
        · rw [Nat.div_eq_of_lt HXV.out, Nat.zero_mul]; exact HRq3.out
      case round =>
        clear HRu3 HRq3
        obtain ⟨j, t, hj, rfl, Ht, HRu, HRq, HK⟩ := hrel
        obtain ⟨wo, rfl⟩ : ∃ wo, wo = wr := ⟨wr, rfl⟩
        rcases Nat.eq_zero_or_pos j with h0 | h0
        · obtain rfl := h0
          have ht : t = -1 := by have := Ht.out; omega
          subst ht
          have hV0 : 0 < V := by
            have h1 := HV2.out
            have h2 := B_pos (n + 2)
            omega
          have e1 : X % (V * B ^ 0) = x % y * 2 ^ z := by rw [Nat.pow_zero, Nat.mul_one, ← HVX.out.1, ← HVX.out.2, Nat.mul_mod_mul_right]
          have e2 : X / (V * B ^ 0) * B ^ 0 = x / y := by rw [Nat.pow_zero, Nat.mul_one, Nat.mul_one, ← HVX.out.1, ← HVX.out.2, Nat.mul_div_mul_right _ _ (Nat.two_pow_pos z)]
          rw [e1] at HRu
          rw [e2] at HRq
          have hqlt : x / y < B ^ (m + 1) := by
            rw [← e2, Nat.pow_zero, Nat.mul_one, Nat.mul_one, Nat.div_lt_iff_lt_mul hV0, Nat.mul_comm]
            exact HXV.out
          have hult : x % y * 2 ^ z < B ^ (n + 2) := by
            rw [← e1, Nat.pow_zero, Nat.mul_one]
            exact Nat.lt_trans (Nat.mod_lt _ hV0) HV1.out
          have hrlt : x % y < B ^ (n + 2) := Nat.lt_of_le_of_lt (Nat.le_mul_of_pos_right _ (Nat.two_pow_pos z)) hult
          have HLT := Aside0.mk (And.intro hqlt (And.intro hult hrlt))
          have HWr : Aside0 (Below w.heap.size w wo) := ⟨HK.out.out HBW.out (by rintro k (h | h) <;> omega)⟩
          have hg1 : gq < wo.heap.size := Nat.lt_of_lt_of_le hgq2 HK.out.size
          have hg2 : gu < wo.heap.size := by have := HK.out.size; omega
          clear e1 e2 hqlt hult hrlt HDc HXV HV1 HV2 HVX
          have y3 : 0 ≤ (n : Int) + 2 := by omega
          go_upto_block 10 with ((with_reducible refine gate_dst (N := 244) rfl ?_); refine Kd.R_make (Kd.int .u32) wo.heap.size 85 rfl (N := 244) rfl 82 _ _ rfl ((n : Int) + 2) rfl rfl Tryd.underlying82 (.int .u32 0) 4 info85 rfl (by decide) (by omega) 0 (ok := fun _ => True) (okp := fun _ => True) rfl (fun _ hk => hk) trivial (by omega) (by omega) (Below.refl _ _) (Nat.le_refl _) ?_; intro vr w4 hRr hb4 _ _; have HB4 := Aside0.mk hb4; obtain ⟨gr, capr, evr, hgr1, hgr2, HRr⟩ := made_of2 hRr; clear hRr hb4; subst evr)
          replace HRr : Aside0 (Kd.R (Kd.int .u32) 85 w4 w.heap.size (fun k => k = gr) (.slice (some ⟨gr, 0, none⟩) (n + 2) capr) (digN (n + 2) (x % y % B ^ 0))) := ⟨by rw [Nat.pow_zero, Nat.mod_one]; exact tight (Kd.R_lower HRr.out HWr.out.size)⟩
          have hru : gr ≠ gu := by omega
          have hrq : gr ≠ gq := by omega
          have HRu4 : Aside0 (Kd.R (Kd.int .u32) 85 w4 w.heap.size (fun k => k = gu) (.slice (some ⟨gu, 0, none⟩) (n + 2 + m + 1) capu) (digN (n + 2 + m + 1) (x % y * 2 ^ z))) := ⟨Kd.R_below HRu.out HB4.out⟩
          have HRq4 : Aside0 (Kd.R (Kd.int .u32) 85 w4 w.heap.size (fun k => k = gq) (.slice (some ⟨gq, 0, none⟩) (m + 1) capq) (digN (m + 1) (x / y))) := ⟨Kd.R_below HRq.out HB4.out⟩
          have HW4 : Aside0 (Below w.heap.size w w4) := ⟨below_step HWr.out HB4.out⟩
          have hwr : w.heap.size ≤ gr := by have := HWr.out.size; omega
          clear HRu HRq HWr HB4 hg1 hg2
          go_wp2
          go_loopw [25] (fun v25 wr => ∃ k : Nat, k ≤ n + 2 ∧ v25 = .int .i64 k ∧ Aside0 (Kd.R (Kd.int .u32) 85 wr w.heap.size (fun k => k = gr) (.slice (some ⟨gr, 0, none⟩) (n + 2) capr) (digN (n + 2) (x % y % B ^ k))) ∧ Aside0 (Chg w4 wr (fun k => k = gr))) (fun v25 _ => n + 2 - (intOf v25).toNat)
          case atStart => exact ⟨0, by omega, rfl, HRr, ⟨Chg.refl _ _⟩⟩
          case round =>
            clear HRr
            obtain ⟨k, hk, rfl, HRr, HKr⟩ := hrel
            by_cases hlt : k < n + 2
            · have HRu5 := Aside0.mk (R_chg HRu4.out HKr.out (fun k h1 h2 => by omega))
              have hc1 := Kd.R_celln 0 HRu5.out ((k + 1 : Nat) : Int) (by omega) (by omega)
              have hc2 := Kd.R_celln 0 HRu5.out (k : Int) (by omega) (by omega)
              have hc3 := Kd.R_celln 0 HRr.out (k : Int) (by omega) (by omega)
              simp only [Int.toNat_natCast] at hc1 hc2 hc3
              obtain ⟨a1, ha1⟩ : ∃ a, x % y * 2 ^ z / B ^ (k + 1) % B = a := ⟨_, rfl⟩
              obtain ⟨a0, ha0⟩ : ∃ a, x % y * 2 ^ z / B ^ k % B = a := ⟨_, rfl⟩
              have hq1 : rdOf 0 (digN (n + 2 + m + 1) (x % y * 2 ^ z)) ((k + 1 : Nat) : Int) = (a1 : Int) := (rd_digN (by omega)).trans (by rw [ha1])
              have hq2 : rdOf 0 (digN (n + 2 + m + 1) (x % y * 2 ^ z)) (k : Int) = (a0 : Int) := (rd_digN (by omega)).trans (by rw [ha0])
              rw [hq1] at hc1
              rw [hq2] at hc2
              have hx1 := hc1.1
              have hx2 := hc2.1
              have hx3 := hc3.1
              have hx4 := hc3.2
              have a1B : a1 < 4294967296 := by rw [← ha1]; exact dgt_lt' _ _
              have a0B : a0 < 4294967296 := by rw [← ha0]; exact dgt_lt' _ _
              have hun := un_num (x := x % y * 2 ^ z) (by_ := z) (i := k) (by omega)
              rw [ha1, ha0, Nat.mul_div_cancel _ (Nat.two_pow_pos z)] at hun
              obtain ⟨Y, hY⟩ : ∃ Y, a1 * 4294967296 + a0 = Y := ⟨_, rfl⟩
              have ho : Go.bits .or .u64 ((a1 : Int) * 4294967296) (a0 : Int) = (Y : Int) := by
                rw [or_u64 (n := a1 * 4294967296) (m := a0) (by simp) rfl (by omega) (by omega), or_add (i := 32) a0B, ← hY]
              obtain ⟨Q, hQ⟩ : ∃ Q, Y / 2 ^ z = Q := ⟨_, rfl⟩
              obtain ⟨d, hd⟩ : ∃ d, Q % 4294967296 = d := ⟨_, rfl⟩
              have s1 : (Y : Int) / 2 ^ z = (Q : Int) := by rw [← hQ]; simp
              have s2 : (Q : Int) % 4294967296 = (d : Int) := by omega
              have hdd : x % y / B ^ k % B = d := by
                rw [← hun, ← hd, ← hQ, ← hY]; rfl
              have hQB : Q < 18446744073709551616 := by
                have : Q ≤ Y := by rw [← hQ]; exact Nat.div_le_self _ _
                omega
              have hYB : Y < 18446744073709551616 := by omega
              have HDD := Aside0.mk hdd
              clear hc1 hc2 hc3 hq1 hq2 ha1 ha0 hun hY hQ hd hdd
              have q1 : 0 ≤ (k : Int) := by omega
              have q2 : (k : Int) < (n : Int) + 2 := by omega
              have q3 : (k : Int) + 1 < (n : Int) + 2 + (m : Int) + 1 := by omega
              have q4 : (k : Int) < (n : Int) + 2 + (m : Int) + 1 := by omega
              have q5 : 0 ≤ (k : Int) + 1 := by omega
              have q6 : ((k : Int) + 1).toNat = k + 1 := by omega
              have z0 : (0 : Int) ≤ (z : Int) := by omega
              have z1 : (z : Int) ≤ 64 := by omega
              go_wp2
              go_region
              go_wp2
              go_roundw
              case rel =>
                refine ⟨k + 1, by omega, by go_num, ⟨?_⟩, ⟨?_⟩⟩
                · have hset : (digN (n + 2) (x % y % B ^ k)).set k (d : Int) = digN (n + 2) (x % y % B ^ (k + 1)) := by
                    rw [← HDD.out, digN_put (by omega) (dgt_lt _ _) (Nat.mod_lt _ (B_pos k)), mod_succ]
                  rw [← hset]
                  first
                    | exact Kd.R_drew (Kd.R_putg HRr.out (k : Int) _).1
                    | exact Kd.R_drewN (Kd.R_putg HRr.out (k : Int) _).1 _
                    | exact (Kd.R_putg (Kd.R_drew HRr.out) (k : Int) _).1
                    | exact (Kd.R_putg (Kd.R_drewN HRr.out _) (k : Int) _).1
                · first
                    | exact (HKr.out.setCell (.inl rfl) _).drew
                    | exact (HKr.out.setCell (.inl rfl) _).drewN _
                    | exact HKr.out.drew.setCell (.inl rfl) _
                    | exact (HKr.out.drewN _).setCell (.inl rfl) _
              case measure => simp [intOf]; omega
            · obtain rfl : k = n + 2 := by omega
              have HQ : Aside0 (Calls Tryd.prog 97 #[.slice (some ⟨gq, 0, none⟩) (m + 1) capq] wr fun e w' => ∃ ad c, e = .returned (.slice (some ad) (nl (x / y)) c) ∧ nl (x / y) ≤ c ∧ Rd w' (.slice (some ad) (nl (x / y)) c) (dig (x / y)) ∧ w' = wr) := ⟨strip_c (L := m + 1) (Rd.of_R (R_chg HRq4.out HKr.out (fun k h1 h2 => by omega))) (by omega) (by omega) HLT.out.1⟩
              have HR5 := HRr.out
              rw [Nat.mod_eq_of_lt HLT.out.2.2] at HR5
              have HRR : Aside0 (Calls Tryd.prog 97 #[.slice (some ⟨gr, 0, none⟩) (n + 2) capr] wr fun e w' => ∃ ad c, e = .returned (.slice (some ad) (nl (x % y)) c) ∧ nl (x % y) ≤ c ∧ Rd w' (.slice (some ad) (nl (x % y)) c) (dig (x % y)) ∧ w' = wr) := ⟨strip_c (L := n + 2) (Rd.of_R HR5) (by omega) (by omega) HLT.out.2.2⟩
              clear HR5
              go_wp2_with (first | (go_at_call 97; (with_reducible refine HQ.out.mono ?_); rintro e w7 ⟨ad7, c7, rfl, _, H7, rfl⟩) | (go_at_call 97; (with_reducible refine HRR.out.mono ?_); rintro e w8 ⟨ad8, c8, rfl, _, H8, rfl⟩))
              go_ret2
              exact ⟨_, _, rfl, H7, H8, HKr.out.out HW4.out (fun k h => by omega)⟩
        · 
          obtain ⟨i, rfl⟩ : ∃ i, j = i + 1 := ⟨j - 1, by omega⟩
          have ht : t = (i : Int) := by have := Ht.out; omega
          subst ht
          clear Ht h0
          clear HLOW
          have hV1 := HV1.out
          have hV2 := HV2.out
          obtain ⟨N, hN0⟩ : ∃ N, X % (V * B ^ (i + 1)) = N := ⟨_, rfl⟩
          have hN : N < V * B ^ (i + 1) := by
            rw [← hN0]
            exact Nat.mod_lt _ (Nat.mul_pos (by have h2 := B_pos (n + 2); omega) (B_pos _))
          rw [hN0] at HRu
          have HN0 := Lib.hid hN0
          have HR := HRu
          have HD : Aside0 (∀ W, Chg wo W (fun k => k = gu) → ∀ j, j < n + 2 → W.cell? ⟨gd, j, none⟩ = some (.int .u32 ((V / B ^ j % B : Nat) : Int))) := ⟨fun W hk => HDc.out W (HK.out.then_ hk (fun k h => .inl (.inl h)))⟩
          clear hN0 HRu
          have hN9 := lpre HV1.out HV2.out hN
          obtain ⟨u2, u1, u0, d1, d2, T, q, G0, R0, hP⟩ := hN9
          have hc1 := Kd.R_celln 0 HR.out ((i + (n + 2) : Nat) : Int) (by omega) (by omega)
          have hc2 := Kd.R_celln 0 HR.out ((i + (n + 1) : Nat) : Int) (by omega) (by omega)
          have hd1 := HD.out wo (Chg.refl _ _) (n + 1) (by omega)
          simp only [Int.toNat_natCast] at hc1 hc2
          have hq : rdOf 0 (digN (n + 2 + m + 1) N) ((i + (n + 2) : Nat) : Int) = (u1 : Int) := (rd_digN (by omega)).trans (by rw [hP.eu1])
          have hq2 : rdOf 0 (digN (n + 2 + m + 1) N) ((i + (n + 1) : Nat) : Int) = (u0 : Int) := (rd_digN (by omega)).trans (by rw [hP.eu0])
          rw [hq] at hc1
          rw [hq2] at hc2
          rw [hP.ed1] at hd1
          have hx1 := hc1.1
          have hx2 := hc2.1
          clear hc1 hc2 hq hq2
          have u1B := hP.u1B
          have u0B := hP.u0B
          have u2B := hP.u2B
          have d1B := hP.d1B
          have d2B := hP.d2B
          have TB := hP.TB
          have hqB := hP.qB
          have hVp := hP.Vp
          have hd1h := hP.d1h
          have HT : Hid (Go.bits .or .u64 ((u1 : Int) * 4294967296) (u0 : Int) = (T : Int)) := Lib.hid (by
            rw [or_u64 (n := u1 * 4294967296) (m := u0) (by simp) rfl (by omega) (by omega), or_add (i := 32) u0B, hP.eT])
          have hGT : G0 ≤ T := by rw [← hP.eG]; exact Nat.div_le_self _ _
          have wq : IntKind.u64.wrap ((T : Int) / (d1 : Int)) = (G0 : Int) := by
            have e : (T : Int) / (d1 : Int) = (G0 : Int) := by rw [← hP.eG]; simp
            rw [e, u64n (by omega) (by omega)]
          have wrm : (T : Int) % (d1 : Int) = (R0 : Int) := by rw [← hP.eR]; simp
          have hd0 : ((d1 : Int) == 0) = false := by rw [beq_eq_false_iff_ne]; omega
          have HP := Aside0.mk hP
          have HGR := Aside0.mk hP.gr
          have HN := Aside0.mk hN
          clear hP hN hV1 hV2
          have z1 : 0 ≤ (i : Int) + ((n : Int) + 2) := by omega
          have z2 : (i : Int) + ((n : Int) + 2) < (n : Int) + 2 + (m : Int) + 1 := by omega
          have z3 : ((i : Int) + ((n : Int) + 2)).toNat = i + (n + 2) := by omega
          have z4 : IntKind.i64.wrap ((i : Int) + ((n : Int) + 2) - 1) = (i : Int) + ((n : Int) + 1) := by rw [i64_w, i64n (by omega) (by omega)]; omega
          have z5 : 0 ≤ (i : Int) + ((n : Int) + 1) := by omega
          have z6 : (i : Int) + ((n : Int) + 1) < (n : Int) + 2 + (m : Int) + 1 := by omega
          have z7 : ((i : Int) + ((n : Int) + 1)).toNat = i + (n + 1) := by omega
          have z8 : IntKind.i64.wrap ((n : Int) + 2 - 1) = (n : Int) + 1 := by rw [i64_w, i64n (by omega) (by omega)]; omega
          have z9 : 0 ≤ (n : Int) + 1 := by omega
          have z10 : ((n : Int) + 1).toNat = n + 1 := by omega
          have z11 : (n : Int) + 1 < (n : Int) + 2 := by omega
          go_wp2
          go_quiet (fail)
          rw [HT.out]
          clear HT
          go_upto_block 4 with (fail)
          go_cut [13] (fun v13 wc => ∃ G : Nat, v13 = .int .u64 G ∧ Aside0 (G < 4294967296 ∧ q ≤ G ∧ G ≤ q + 1) ∧ Aside0 (Drawn0 wo wc))
          case first =>
            have hc3 := Kd.R_celln 0 HR.out ((i + n : Nat) : Int) (by omega) (by omega)
            have hd2 := HD.out wo (Chg.refl _ _) n (by omega)
            simp only [Int.toNat_natCast] at hc3
            have hq : rdOf 0 (digN (n + 2 + m + 1) N) ((i + n : Nat) : Int) = (u2 : Int) := (rd_digN (by omega)).trans (by rw [HP.out.eu2])
            rw [hq] at hc3
            rw [HP.out.ed2] at hd2
            have hx3 := hc3.1
            clear hc3 hq
            have z12 : IntKind.i64.wrap ((n : Int) + 2 - 2) = (n : Int) := by rw [i64_w, i64n (by omega) (by omega)]; omega
            have z13 : 0 ≤ (n : Int) := by omega
            have z14 : (n : Int) < (n : Int) + 2 := by omega
            have z15 : IntKind.i64.wrap ((i : Int) + ((n : Int) + 2) - 2) = (i : Int) + (n : Int) := by rw [i64_w, i64n (by omega) (by omega)]; omega
            have z16 : 0 ≤ (i : Int) + (n : Int) := by omega
            have z17 : (i : Int) + (n : Int) < (n : Int) + 2 + (m : Int) + 1 := by omega
            have z18 : ((i : Int) + (n : Int)).toNat = i + n := by omega
            go_wp2
            go_loopw [13, 14] (fun v7 v8 wr2 => ∃ G R : Nat, v7 = .int .u64 G ∧ v8 = .int .u64 R ∧ Aside0 (G ≤ 4294967297 ∧ R < 4294967296 ∧ q ≤ G ∧ G * d1 + R = T) ∧ Aside0 (Drawn0 wo wr2)) (fun v7 _ _ => (intOf v7).toNat)
            case atStart => exact ⟨G0, R0, by first | rfl | rw [wq], by first | rfl | rw [wrm], HGR, ⟨⟨⟨_, rfl⟩⟩⟩⟩
            case round =>
              obtain ⟨G, R, rfl, rfl, HI, ⟨⟨mm, rfl⟩⟩⟩ := hrel
              have GB := HI.out.1
              have RB := HI.out.2.1
              obtain ⟨S, hS0⟩ : ∃ S, R + d1 = S := ⟨_, rfl⟩
              have hS : (R : Int) + (d1 : Int) = (S : Int) := by omega
              have HS := Lib.hid hS0
              clear hS0
              by_cases c1 : 4294967296 ≤ G
              · have c1b : decide ((4294967296 : Int) ≤ (G : Int)) = true := decide_eq_true (by omega)
                by_cases c3 : 4294967296 ≤ S
                · have c3b : decide ((4294967296 : Int) ≤ (S : Int)) = true := decide_eq_true (by omega)
                  go_wp2
                  go_quiet (fail)
                  go_wp2
                  have hl : G - 1 < 4294967296 := by
                    have h1 := HI.out.2.2.2
                    have h2 := HS.out
                    have h3 := HP.out.Tle
                    rcases Nat.lt_or_ge G 4294967297 with h | h
                    · omega
                    · exfalso
                      obtain rfl : G = 4294967297 := by omega
                      omega
                  go_meet
                  exact ⟨G - 1, by go_num, ⟨hl, by omega, HP.out.le (G - 1) S (hl) (by have h1 := HI.out.2.2.2; have h2 := HS.out; rw [Nat.sub_mul, Nat.one_mul]; have h3 : d1 ≤ G * d1 := Nat.le_mul_of_pos_left _ (by omega); omega) (HP.out.bb _ _ (by have : G - 1 < 4294967296 := hl; omega) c3)⟩, ⟨by first | exact ⟨⟨_, rfl⟩⟩ | exact Drawn0.step ⟨⟨_, rfl⟩⟩ _⟩⟩
                · have c3b : decide ((4294967296 : Int) ≤ (S : Int)) = false := decide_eq_false (by omega)
                  go_wp2
                  go_quiet (fail)
                  go_wp2
                  go_roundw
                  case rel => exact ⟨G - 1, S, by go_num, rfl, ⟨by omega, by omega, by omega, by have h1 := HI.out.2.2.2; have h2 := HS.out; rw [Nat.sub_mul, Nat.one_mul]; have h3 : d1 ≤ G * d1 := Nat.le_mul_of_pos_left _ (by omega); omega⟩, ⟨by first | exact ⟨⟨_, rfl⟩⟩ | exact Drawn0.step ⟨⟨_, rfl⟩⟩ _⟩⟩
                  case measure => simp [intOf]; omega
              · have c1b : decide ((4294967296 : Int) ≤ (G : Int)) = false := decide_eq_false (by omega)
                obtain ⟨X, hX⟩ : ∃ X, G * d2 = X := ⟨_, rfl⟩
                obtain ⟨Y, hY⟩ : ∃ Y, R * 4294967296 + u2 = Y := ⟨_, rfl⟩
                have XB : X < 18446744073709551616 := by
                  have h1 : G * d2 ≤ 4294967295 * 4294967295 := Nat.mul_le_mul (by omega) (by omega)
                  omega
                have hp : IntKind.u64.wrap ((G : Int) * (d2 : Int)) = (X : Int) := by
                  have e : (G : Int) * (d2 : Int) = (X : Int) := by rw [← hX]; simp
                  rw [e, u64n (by omega) (by omega)]
                have ho : Go.bits .or .u64 ((R : Int) * 4294967296) (u2 : Int) = (Y : Int) := by
                  rw [or_u64 (n := R * 4294967296) (m := u2) (by simp) rfl (by omega) (by omega), or_add (i := 32) u2B, ← hY]
                have HX := Lib.hid hX
                have HY := Lib.hid hY
                clear hX hY
                by_cases c2 : Y < X
                · have c2b : decide ((Y : Int) < (X : Int)) = true := decide_eq_true (by omega)
                  have g1 : 1 ≤ G := by
                    rcases Nat.eq_zero_or_pos G with h | h
                    · have := HX.out; rw [h, Nat.zero_mul] at this; omega
                    · exact h
                  by_cases c3 : 4294967296 ≤ S
                  · have c3b : decide ((4294967296 : Int) ≤ (S : Int)) = true := decide_eq_true (by omega)
                    go_wp2
                    go_quiet (fail)
                    go_wp2
                    have hl : G - 1 < 4294967296 := by omega
                    go_meet
                    exact ⟨G - 1, by go_num, ⟨hl, by have := HP.out.gt G R HI.out.2.2.2 (by rw [HX.out, HY.out]; exact c2); omega, HP.out.le (G - 1) S hl (by have h1 := HI.out.2.2.2; have h2 := HS.out; rw [Nat.sub_mul, Nat.one_mul]; have h3 : d1 ≤ G * d1 := Nat.le_mul_of_pos_left _ (by omega); omega) (HP.out.bb _ _ (by have : G - 1 < 4294967296 := hl; omega) c3)⟩, ⟨by first | exact ⟨⟨_, rfl⟩⟩ | exact Drawn0.step ⟨⟨_, rfl⟩⟩ _⟩⟩
                  · have c3b : decide ((4294967296 : Int) ≤ (S : Int)) = false := decide_eq_false (by omega)
                    go_wp2
                    go_quiet (fail)
                    go_wp2
                    go_roundw
                    case rel => exact ⟨G - 1, S, by go_num, rfl, ⟨by omega, by omega, by have := HP.out.gt G R HI.out.2.2.2 (by rw [HX.out, HY.out]; exact c2); omega, by have h1 := HI.out.2.2.2; have h2 := HS.out; rw [Nat.sub_mul, Nat.one_mul]; have h3 : d1 ≤ G * d1 := Nat.le_mul_of_pos_left _ (by omega); omega⟩, ⟨by first | exact ⟨⟨_, rfl⟩⟩ | exact Drawn0.step ⟨⟨_, rfl⟩⟩ _⟩⟩
                    case measure => simp [intOf]; omega
                · have c2b : decide ((Y : Int) < (X : Int)) = false := decide_eq_false (by omega)
                  go_wp2
                  go_quiet (fail)
                  go_wp2
                  go_meet
                  exact ⟨G, rfl, ⟨by omega, HI.out.2.2.1, HP.out.le G R (by omega) HI.out.2.2.2 (by rw [HX.out, HY.out]; omega)⟩, ⟨by first | exact ⟨⟨_, rfl⟩⟩ | exact Drawn0.step ⟨⟨_, rfl⟩⟩ _⟩⟩
          case rest =>
            obtain ⟨G, rfl, HG, ⟨⟨mm, rfl⟩⟩⟩ := hcut
            have GB := HG.out.1
            clear HGR hx1 hx2 hd1 z4 z5 z6 z7 z8 z9 z10 z11 wq wrm hd0 hGT
            go_wp2
            go_loopw [15, 16, 17] (fun v15 v16 v17 w2 => ∃ k c b M : Nat, k ≤ n + 2 ∧ v15 = .int .u64 c ∧ v16 = .int .u64 b ∧ v17 = .int .i64 k ∧ c < 4294967296 ∧ b ≤ 1 ∧ Aside0 (M + G * (V % B ^ k) * B ^ i = N + (c + b) * B ^ (i + k) ∧ M / B ^ (i + k) = N / B ^ (i + k)) ∧ Aside0 (Kd.R (Kd.int .u32) 85 w2 w.heap.size (fun k => k = gu) (.slice (some ⟨gu, 0, none⟩) (n + 2 + m + 1) capu) (digN (n + 2 + m + 1) M)) ∧ Aside0 (Chg wo w2 (fun k => k = gu))) (fun _ _ v17 _ => n + 2 - (intOf v17).toNat)
            case atStart => exact ⟨0, 0, 0, N, by omega, rfl, rfl, rfl, by omega, by omega, ⟨by simp [Nat.mod_one], rfl⟩, ⟨Kd.R_drewN HR.out _⟩, ⟨(Chg.refl _ _).drewN _⟩⟩
            case round =>
              obtain ⟨k, c, b, M, hk, rfl, rfl, rfl, hcB, hbB, HM, HRM, HKM⟩ := hrel
              by_cases hlt : k < n + 2
              · obtain ⟨v, hv⟩ : ∃ v : Nat, V / B ^ k % B = v := ⟨_, rfl⟩
                obtain ⟨x, hx⟩ : ∃ x : Nat, M / B ^ (i + k) % B = x := ⟨_, rfl⟩
                have hcd := HD.out _ HKM.out k hlt
                have hcx := Kd.R_celln 0 HRM.out ((i + k : Nat) : Int) (by omega) (by omega)
                have hq : rdOf 0 (digN (n + 2 + m + 1) M) ((i + k : Nat) : Int) = (x : Int) := (rd_digN (by omega)).trans (by rw [hx])
                simp only [Int.toNat_natCast] at hcx
                rw [hq] at hcx
                rw [hv] at hcd
                have hcx1 := hcx.1
                have hcx2 := hcx.2
                have vB : v < 4294967296 := by rw [← hv]; exact dgt_lt' _ _
                have xB : x < 4294967296 := by rw [← hx]; exact dgt_lt' _ _
                have Hv := Lib.hid hv
                have Hx := Lib.hid hx
                clear hcx hq hv hx
                obtain ⟨Pr, hPr⟩ : ∃ X, G * v = X := ⟨_, rfl⟩
                have PB : Pr ≤ 4294967295 * 4294967295 := by rw [← hPr]; exact Nat.mul_le_mul (by omega) (by omega)
                obtain ⟨t, ht⟩ : ∃ t, Pr + c = t := ⟨_, rfl⟩
                obtain ⟨c', hc'⟩ : ∃ z, t / 4294967296 = z := ⟨_, rfl⟩
                obtain ⟨lo, hlo⟩ : ∃ z, t % 4294967296 = z := ⟨_, rfl⟩
                obtain ⟨yy, hyy⟩ : ∃ z, lo + b = z := ⟨_, rfl⟩
                have tB : t < 18446744073709551616 := by omega
                have cB' : c' < 4294967296 := by omega
                have lB' : lo < 4294967296 := by omega
                have yB' : yy ≤ 4294967296 := by omega
                have r1 : IntKind.u64.wrap ((G : Int) * (v : Int)) = (Pr : Int) := by
                  have e : (G : Int) * (v : Int) = (Pr : Int) := by rw [← hPr]; simp
                  rw [e, u64n (by omega) (by omega)]
                have r2 : (c : Int) + (Pr : Int) = (t : Int) := by omega
                have r3 : (t : Int) / 4294967296 = (c' : Int) := by omega
                have r4 : Go.bits .and .u64 (t : Int) 4294967295 = (lo : Int) := by rw [← hlo]; exact and_low tB
                have r5 : (lo : Int) + (b : Int) = (yy : Int) := by omega
                have HPr := Lib.hid hPr
                have Ht := Lib.hid ht
                have Hc' := Lib.hid hc'
                have Hlo := Lib.hid hlo
                have Hyy := Lib.hid hyy
                clear hPr ht hc' hlo hyy
                have q1 : 0 ≤ (k : Int) := by omega
                have q2 : (k : Int) < (n : Int) + 2 := by omega
                have q3 : 0 ≤ (i : Int) + (k : Int) := by omega
                have q4 : (i : Int) + (k : Int) < (n : Int) + 2 + (m : Int) + 1 := by omega
                have q5 : ((i : Int) + (k : Int)).toNat = i + k := by omega
                by_cases hd : x < yy
                · have d1' : decide ((x : Int) < (yy : Int)) = true := decide_eq_true (by omega)
                  obtain ⟨x2, hx2⟩ : ∃ z, x + 4294967296 = z := ⟨_, rfl⟩
                  obtain ⟨yv, hyv⟩ : ∃ z, x2 - yy = z := ⟨_, rfl⟩
                  have r6 : (x : Int) + 4294967296 = (x2 : Int) := by omega
                  have r7 : (x2 : Int) - (yy : Int) = (yv : Int) := by omega
                  have r8 : (yv : Int) % 4294967296 = (yv : Int) := by omega
                  have x2B : x2 < 8589934592 := by omega
                  have hyB : yv < 4294967296 := by omega
                  have HYV : Aside0 (yv + lo + b = x + 1 * B) := ⟨by have := Hyy.out; unfold B; omega⟩
                  clear hx2 hyv
                  go_wp2
                  go_roundw
                  case rel =>
                    obtain ⟨M', hM'⟩ := put_ex M (i + k) yv
                    have hhi := hi_of B0 hyB hM'
                    have hset := digN_set (L := n + 2 + m + 1) (show i + k < n + 2 + m + 1 by omega) hyB hM'
                    rw [Hx.out] at hM'
                    refine ⟨k + 1, c', 1, M', by omega, rfl, rfl, by go_num, cB', by omega, ⟨?_, ?_⟩, ⟨?_⟩, ⟨?_⟩⟩
                    · refine sub_step HM.out.1 HYV.out ?_ hM'
                      rw [Hv.out, HPr.out, Ht.out]
                      have h1 := Hc'.out
                      have h2 := Hlo.out
                      unfold B
                      omega
                    · rw [← Nat.add_assoc, hhi, Nat.pow_succ, ← Nat.div_div_eq_div_mul, HM.out.2, Nat.div_div_eq_div_mul]
                    · rw [← hset]
                      exact (Kd.R_putg HRM.out ((i + k : Nat) : Int) _).1
                    · exact HKM.out.setCell (.inl rfl) _
                  case measure => simp [intOf]; omega
                · have d1' : decide ((x : Int) < (yy : Int)) = false := decide_eq_false (by omega)
                  obtain ⟨yv, hyv⟩ : ∃ z, x - yy = z := ⟨_, rfl⟩
                  have r7 : (x : Int) - (yy : Int) = (yv : Int) := by omega
                  have r8 : (yv : Int) % 4294967296 = (yv : Int) := by omega
                  have hyB : yv < 4294967296 := by omega
                  have HYV : Aside0 (yv + lo + b = x + 0 * B) := ⟨by have := Hyy.out; omega⟩
                  clear hyv
                  go_wp2
                  go_roundw
                  case rel =>
                    obtain ⟨M', hM'⟩ := put_ex M (i + k) yv
                    have hhi := hi_of B0 hyB hM'
                    have hset := digN_set (L := n + 2 + m + 1) (show i + k < n + 2 + m + 1 by omega) hyB hM'
                    rw [Hx.out] at hM'
                    refine ⟨k + 1, c', 0, M', by omega, rfl, rfl, by go_num, cB', by omega, ⟨?_, ?_⟩, ⟨?_⟩, ⟨?_⟩⟩
                    · refine sub_step HM.out.1 HYV.out ?_ hM'
                      rw [Hv.out, HPr.out, Ht.out]
                      have h1 := Hc'.out
                      have h2 := Hlo.out
                      unfold B
                      omega
                    · rw [← Nat.add_assoc, hhi, Nat.pow_succ, ← Nat.div_div_eq_div_mul, HM.out.2, Nat.div_div_eq_div_mul]
                    · rw [← hset]
                      exact (Kd.R_putg HRM.out ((i + k : Nat) : Int) _).1
                    · exact HKM.out.setCell (.inl rfl) _
                  case measure => simp [intOf]; omega
              · obtain rfl : k = n + 2 := by omega
                clear hlt hk
                obtain ⟨x, hx⟩ : ∃ x : Nat, M / B ^ (i + (n + 2)) % B = x := ⟨_, rfl⟩
                have hcx := Kd.R_celln 0 HRM.out ((i + (n + 2) : Nat) : Int) (by omega) (by omega)
                have hq : rdOf 0 (digN (n + 2 + m + 1) M) ((i + (n + 2) : Nat) : Int) = (x : Int) := (rd_digN (by omega)).trans (by rw [hx])
                simp only [Int.toNat_natCast] at hcx
                rw [hq] at hcx
                have hcx1 := hcx.1
                have hcx2 := hcx.2
                have xB : x < 4294967296 := by rw [← hx]; exact dgt_lt' _ _
                have Hx := Lib.hid hx
                clear hcx hq hx
                obtain ⟨C, hC⟩ : ∃ C, c + b = C := ⟨_, rfl⟩
                have r1 : (c : Int) + (b : Int) = (C : Int) := by omega
                have CB : C ≤ 4294967296 := by omega
                have HMe : Aside0 (M + G * V * B ^ i = N + C * B ^ (i + (n + 2))) := ⟨by
                  have := HM.out.1
                  rw [Nat.mod_eq_of_lt HV1.out, hC] at this
                  exact this⟩
                have hMlt : M < B ^ (i + (n + 2) + 1) := by
                  apply lt_of_hi
                  have h1 := HM.out.2
                  rw [Nat.pow_succ, ← Nat.div_div_eq_div_mul, h1, Nat.div_div_eq_div_mul, ← Nat.pow_succ]
                  exact Nat.div_eq_of_lt (by have := HP.out.N2; rwa [show i + (n + 1) + 2 = i + (n + 2) + 1 by omega] at this)
                have HMlt := Aside0.mk hMlt
                clear hC hMlt
                have i1 : 0 ≤ (i : Int) := by omega
                have i2 : (i : Int) < (m : Int) + 1 := by omega
                have hVV : 0 < V * B ^ i := Nat.mul_pos hVp (B_pos i)
                have HVV := Aside0.mk hVV
                clear hVV
                by_cases hd : x < C
                · have d1' : decide ((x : Int) < (C : Int)) = true := decide_eq_true (by omega)
                  obtain ⟨W, hW⟩ : ∃ z, x + 18446744073709551616 - C = z := ⟨_, rfl⟩
                  obtain ⟨y, hy⟩ : ∃ z, x + 4294967296 - C = z := ⟨_, rfl⟩
                  have r7 : IntKind.u64.wrap ((x : Int) - (C : Int)) = (W : Int) := by
                    show ((x : Int) - (C : Int)) % 18446744073709551616 = (W : Int)
                    omega
                  have r8 : (W : Int) % 4294967296 = (y : Int) := by omega
                  have hyB : y < 4294967296 := by omega
                  have HY : Aside0 (y + C = x + B) := ⟨by unfold B; omega⟩
                  clear hW hy
                  obtain ⟨M', hM'⟩ := put_ex M (i + (n + 2)) y
                  have HSET := Aside0.mk (digN_set (L := n + 2 + m + 1) (show i + (n + 2) < n + 2 + m + 1 by omega) hyB hM')
                  have hM'lt : M' < B ^ (i + (n + 2) + 1) := by
                    apply lt_of_hi
                    rw [hi_of B0 hyB hM']
                    exact Nat.div_eq_of_lt HMlt.out
                  rw [Hx.out] at hM'
                  have hfin := sub_end1 (c := C) (b := 0) hVp (by rw [Nat.add_zero]; exact HMe.out) (by rw [Nat.add_zero]; exact HY.out) hM' hM'lt (by rw [HP.out.eq]; exact HG.out.2.2)
                  have HF := Aside0.mk hfin
                  have HML := Aside0.mk hM'lt
                  have hGq : G = q + 1 := by rw [← HP.out.eq]; exact hfin.1
                  subst hGq
                  clear hfin hM' hM'lt
                  have rg : ((q + 1 : Nat) : Int) - 1 = (q : Int) := by omega
                  have HR1 : Aside0 (Kd.R (Kd.int .u32) 85 (wr.setCell ⟨gu, i + (n + 2), none⟩ (.int .u32 (y : Int))) w.heap.size (fun k => k = gu) (.slice (some ⟨gu, 0, none⟩) (n + 2 + m + 1) capu) (digN (n + 2 + m + 1) M')) := ⟨by
                    rw [← HSET.out]
                    exact (Kd.R_putg HRM.out ((i + (n + 2) : Nat) : Int) _).1⟩
                  have HK1 : Aside0 (Chg wo (wr.setCell ⟨gu, i + (n + 2), none⟩ (.int .u32 (y : Int))) (fun k => k = gu)) := ⟨HKM.out.setCell (.inl rfl) _⟩
                  go_wp2
                  clear hcx1 hcx2 HRM HKM HSET
                  go_loopw [15, 23] (fun v15 v23 wz => ∃ k c M : Nat, k ≤ n + 2 ∧ v15 = .int .u64 c ∧ v23 = .int .i64 k ∧ c ≤ 1 ∧ Aside0 (M + c * B ^ (i + k) = M' + V % B ^ k * B ^ i ∧ M / B ^ (i + k) = M' / B ^ (i + k)) ∧ Aside0 (Kd.R (Kd.int .u32) 85 wz w.heap.size (fun k => k = gu) (.slice (some ⟨gu, 0, none⟩) (n + 2 + m + 1) capu) (digN (n + 2 + m + 1) M)) ∧ Aside0 (Chg wo wz (fun k => k = gu))) (fun _ v23 _ => n + 2 - (intOf v23).toNat)
                  case atStart => exact ⟨0, 0, M', by omega, rfl, rfl, by omega, ⟨by simp [Nat.mod_one], rfl⟩, HR1, HK1⟩
                  case round =>
                    clear HR1 HK1
                    obtain ⟨k, c, M, hk, rfl, rfl, hcB, HM, HRM, HKM⟩ := hrel
                    by_cases hlt : k < n + 2
                    · obtain ⟨v, hv⟩ : ∃ v : Nat, V / B ^ k % B = v := ⟨_, rfl⟩
                      obtain ⟨x, hx⟩ : ∃ x : Nat, M / B ^ (i + k) % B = x := ⟨_, rfl⟩
                      have hcd := HD.out _ HKM.out k hlt
                      have hcx := Kd.R_celln 0 HRM.out ((i + k : Nat) : Int) (by omega) (by omega)
                      have hq : rdOf 0 (digN (n + 2 + m + 1) M) ((i + k : Nat) : Int) = (x : Int) := (rd_digN (by omega)).trans (by rw [hx])
                      simp only [Int.toNat_natCast] at hcx
                      rw [hq] at hcx
                      rw [hv] at hcd
                      have hcx1 := hcx.1
                      have hcx2 := hcx.2
                      have vB : v < 4294967296 := by rw [← hv]; exact dgt_lt' _ _
                      have xB : x < 4294967296 := by rw [← hx]; exact dgt_lt' _ _
                      have Hv := Lib.hid hv
                      have Hx := Lib.hid hx
                      clear hcx hq hv hx
                      obtain ⟨s, hs⟩ : ∃ s, c + x = s := ⟨_, rfl⟩
                      obtain ⟨t, ht⟩ : ∃ t, s + v = t := ⟨_, rfl⟩
                      obtain ⟨y, hy⟩ : ∃ y, t % 4294967296 = y := ⟨_, rfl⟩
                      obtain ⟨c', hc'⟩ : ∃ y, t / 4294967296 = y := ⟨_, rfl⟩
                      have s1 : (c : Int) + (x : Int) = (s : Int) := by omega
                      have s2 : (s : Int) + (v : Int) = (t : Int) := by omega
                      have s3 : (t : Int) % 4294967296 = (y : Int) := by omega
                      have s4 : (t : Int) / 4294967296 = (c' : Int) := by omega
                      have sB : s < 4294967298 := by omega
                      have tB : t < 8589934594 := by omega
                      have hyB : y < 4294967296 := by omega
                      have hcB' : c' ≤ 1 := by omega
                      have HY : Aside0 (y + c' * B = x + v + c) := ⟨by unfold B; omega⟩
                      clear hs ht hy hc'
                      have q1 : 0 ≤ (k : Int) := by omega
                      have q2 : (k : Int) < (n : Int) + 2 := by omega
                      have q3 : 0 ≤ (i : Int) + (k : Int) := by omega
                      have q4 : (i : Int) + (k : Int) < (n : Int) + 2 + (m : Int) + 1 := by omega
                      have q5 : ((i : Int) + (k : Int)).toNat = i + k := by omega
                      go_wp2
                      go_quiet (fail)
                      go_wp2
                      go_roundw
                      case rel =>
                        obtain ⟨M2, hM2⟩ := put_ex M (i + k) y
                        have hhi := hi_of B0 hyB hM2
                        have hset := digN_set (L := n + 2 + m + 1) (show i + k < n + 2 + m + 1 by omega) hyB hM2
                        rw [Hx.out] at hM2
                        refine ⟨k + 1, c', M2, by omega, rfl, by go_num, hcB', ⟨?_, ?_⟩, ⟨?_⟩, ⟨?_⟩⟩
                        · refine add_step HM.out.1 ?_ hM2
                          rw [Hv.out, HY.out]
                        · rw [← Nat.add_assoc, hhi, Nat.pow_succ, ← Nat.div_div_eq_div_mul, HM.out.2, Nat.div_div_eq_div_mul]
                        · rw [← hset]
                          first
                            | exact (Kd.R_putg (Kd.R_drew HRM.out) ((i + k : Nat) : Int) _).1
                            | exact (Kd.R_putg (Kd.R_drewN HRM.out _) ((i + k : Nat) : Int) _).1
                        · first
                            | exact HKM.out.drew.setCell (.inl rfl) _
                            | exact (HKM.out.drewN _).setCell (.inl rfl) _
                      case measure => simp [intOf]; omega
                    · obtain rfl : k = n + 2 := by omega
                      clear hlt hk
                      obtain ⟨x, hx⟩ : ∃ x : Nat, M / B ^ (i + (n + 2)) % B = x := ⟨_, rfl⟩
                      have hcx := Kd.R_celln 0 HRM.out ((i + (n + 2) : Nat) : Int) (by omega) (by omega)
                      have hq : rdOf 0 (digN (n + 2 + m + 1) M) ((i + (n + 2) : Nat) : Int) = (x : Int) := (rd_digN (by omega)).trans (by rw [hx])
                      simp only [Int.toNat_natCast] at hcx
                      rw [hq] at hcx
                      have hcx1 := hcx.1
                      have hcx2 := hcx.2
                      have xB : x < 4294967296 := by rw [← hx]; exact dgt_lt' _ _
                      have Hx := Lib.hid hx
                      clear hcx hq hx
                      obtain ⟨y, hy⟩ : ∃ y : Nat, (x + c) % B = y := ⟨_, rfl⟩
                      have hyB : y < 4294967296 := by rw [← hy]; exact Nat.mod_lt _ B0
                      have s1 : ((x : Int) + (c : Int)) % 4294967296 = (y : Int) := by rw [← hy]; unfold B; omega
                      have s2 : (c : Int) % 4294967296 = (c : Int) := by omega
                      have rG : (q : Int) % 4294967296 = (q : Int) := by omega
                      obtain ⟨M2, hM2⟩ := put_ex M (i + (n + 2)) y
                      have HSET := Aside0.mk (digN_set (L := n + 2 + m + 1) (show i + (n + 2) < n + 2 + m + 1 by omega) hyB hM2)
                      rw [Hx.out] at hM2
                      have hMlt : M < B ^ (i + (n + 2) + 1) := by
                        apply lt_of_hi
                        have h1 := HM.out.2
                        rw [Nat.pow_succ, ← Nat.div_div_eq_div_mul, h1, Nat.div_div_eq_div_mul, ← Nat.pow_succ]
                        exact Nat.div_eq_of_lt HML.out
                      have hfin : M2 = N % (V * B ^ i) := by
                        have h1 := HM.out.1
                        rw [Nat.mod_eq_of_lt HV1.out] at h1
                        exact add_end h1 HF.out.2 hMlt hcB Hx.out hy.symm hM2
                      have HFIN := Aside0.mk hfin
                      clear hy hM2 hMlt hfin
                      have HR2 : Aside0 (Kd.R (Kd.int .u32) 85 (wr.setCell ⟨gu, i + (n + 2), none⟩ (.int .u32 (y : Int))) w.heap.size (fun k => k = gu) (.slice (some ⟨gu, 0, none⟩) (n + 2 + m + 1) capu) (digN (n + 2 + m + 1) (N % (V * B ^ i)))) := ⟨by
                        rw [← HFIN.out, ← HSET.out]
                        exact (Kd.R_putg HRM.out ((i + (n + 2) : Nat) : Int) _).1⟩
                      have HK2 : Aside0 (Chg wo (wr.setCell ⟨gu, i + (n + 2), none⟩ (.int .u32 (y : Int))) (fun k => k = gu)) := ⟨HKM.out.setCell (.inl rfl) _⟩
                      have HRq1 := Aside0.mk (R_chg HRq.out HK2.out (fun k h1 h2 => by omega))
                      have hcq := Kd.R_celln 0 HRq1.out (i : Int) (by omega) (by omega)
                      simp only [Int.toNat_natCast] at hcq
                      have hcq1 := hcq.1
                      have hcq2 := hcq.2
                      clear hcq
                      go_wp2
                      go_roundw
                      case rel =>
                        refine ⟨i, (i : Int) - 1, by omega, by go_num, ⟨rfl⟩, ⟨?_⟩, ⟨?_⟩, ⟨?_⟩⟩
                        · have := HR2.out
                          rw [← HN0.out] at this
                          exact R_chg (put_u this) ((Chg.refl _ (fun k => k = gq)).setCell (.inl rfl) _) (fun k h1 h2 => by omega)
                        · have := put_q HRq1.out (by omega : i < m + 1) HXV.out (by have := HV2.out; have h2 := B_pos (n + 2); omega)
                          rw [HN0.out, HP.out.eq] at this
                          exact this
                        · exact (HK.out.trans (HK2.out.mono (fun k h => .inl h))).setCell (.inl (.inr rfl)) _
                      case measure => simp [intOf]
                · have d1' : decide ((x : Int) < (C : Int)) = false := decide_eq_false (by omega)
                  obtain ⟨y, hy⟩ : ∃ z, x - C = z := ⟨_, rfl⟩
                  have r7 : (x : Int) - (C : Int) = (y : Int) := by omega
                  have r8 : (y : Int) % 4294967296 = (y : Int) := by omega
                  have hyB : y < 4294967296 := by omega
                  have HY : Aside0 (y + C = x) := ⟨by omega⟩
                  clear hy
                  obtain ⟨M', hM'⟩ := put_ex M (i + (n + 2)) y
                  have HSET := Aside0.mk (digN_set (L := n + 2 + m + 1) (show i + (n + 2) < n + 2 + m + 1 by omega) hyB hM')
                  rw [Hx.out] at hM'
                  have hfin : G = N / (V * B ^ i) ∧ M' = N % (V * B ^ i) := sub_end0 (c := C) (b := 0) hVp (by rw [Nat.add_zero]; exact HMe.out) (by rw [Nat.add_zero]; exact HY.out) hM' (by rw [HP.out.eq]; exact HG.out.2.1)
                  have hGq : G = q := by rw [← HP.out.eq]; exact hfin.1
                  subst hGq
                  have HF := Aside0.mk hfin.2
                  clear hfin hM'
                  have rG : (G : Int) % 4294967296 = (G : Int) := by omega
                  have HR1 : Aside0 (Kd.R (Kd.int .u32) 85 (wr.setCell ⟨gu, i + (n + 2), none⟩ (.int .u32 (y : Int))) w.heap.size (fun k => k = gu) (.slice (some ⟨gu, 0, none⟩) (n + 2 + m + 1) capu) (digN (n + 2 + m + 1) (N % (V * B ^ i)))) := ⟨by
                    rw [← HF.out, ← HSET.out]
                    exact (Kd.R_putg HRM.out ((i + (n + 2) : Nat) : Int) _).1⟩
                  have HK1 : Aside0 (Chg wo (wr.setCell ⟨gu, i + (n + 2), none⟩ (.int .u32 (y : Int))) (fun k => k = gu)) := ⟨HKM.out.setCell (.inl rfl) _⟩
                  have HRq1 := Aside0.mk (R_chg HRq.out HK1.out (fun k h1 h2 => by omega))
                  have hcq := Kd.R_celln 0 HRq1.out (i : Int) (by omega) (by omega)
                  simp only [Int.toNat_natCast] at hcq
                  have hcq1 := hcq.1
                  have hcq2 := hcq.2
                  clear hcq
                  go_wp2
                  go_roundw
                  case rel =>
                    refine ⟨i, (i : Int) - 1, by omega, by go_num, ⟨rfl⟩, ⟨?_⟩, ⟨?_⟩, ⟨?_⟩⟩
                    · have := HR1.out
                      rw [← HN0.out] at this
                      exact R_chg (put_u this) ((Chg.refl _ (fun k => k = gq)).setCell (.inl rfl) _) (fun k h1 h2 => by omega)
                    · have := put_q HRq1.out (by omega : i < m + 1) HXV.out (by have := HV2.out; have h2 := B_pos (n + 2); omega)
                      rw [HN0.out, HP.out.eq] at this
                      exact this
                    · exact (HK.out.trans (HK1.out.mono (fun k h => .inl h))).setCell (.inl (.inr rfl)) _
                  case measure => simp [intOf]
end Go.Proofs.YtiamgjepcagohaaDoor.P
