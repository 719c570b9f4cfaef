/- ClRcon: lemmas of this claim, of 2 texts. -/
import Derived.Test.YtiamgjepcagohaaDoorClRlong
import Derived.Test.YtiamgjepcagohaaDoorClMem
section
/- The reference's division, greatest common divisor and reduced fractions. -/
namespace Go.Proofs.YtiamgjepcagohaaDoor.P
open Go Go.RowKit Go.Proofs.YtiamgjepcagohaaDoorW.PrintWords Go.Proofs.YtiamgjepcagohaaDoorW.PrintLast Go.Proofs.YtiamgjepcagohaaDoorW.PrintMore Go.Proofs.YtiamgjepcagohaaDoor.Ari

set_option maxHeartbeats 2000000 in
set_option maxRecDepth 1000000 in
theorem rdivide_lt (x y : Nat) (A0 A1 : Option Addr) (c0 c1 : Nat) (w : World) (hx : Kd.C (Kd.int .u32) w A0 (nl x) (dig x)) (hc0 : nl x ≤ c0) (hy : Kd.C (Kd.int .u32) w A1 (nl y) (dig y)) (hc1 : nl y ≤ c1)
    (hxs : nl x ≤ 17592186044416) (hys : nl y ≤ 17592186044416) (hlt : x < y) :
    Calls Tryd.prog 96 #[.slice A0 (nl x) c0, .slice A1 (nl y) c1] w fun e w' => e = .returned (.tuple #[.slice none 0 0, .slice A0 (nl x) c0]) ∧ Drawn0 w w' := by
  have hcmp : cmp x y = -1 := by simp [cmp, hlt]
  have hc := fun W (hd : Drawn0 w W) => rorder_calls (C_drawn hx hd) hc0 (C_drawn hy hd) hc1 hxs
  rw [hcmp] at hc
  have HC := Aside0.mk hc
  clear hc hx hy hcmp
  go_enter Tryd.func96, Tryd.ntmps96
  go_wp2_with (go_at_call 100; refine (HC.out _ (Drawn0.refl _)).mono ?_; rintro e w' ⟨rfl, ⟨n, rfl⟩⟩)
  go_ret2
  exact ⟨rfl, ⟨⟨_, rfl⟩⟩⟩

set_option maxHeartbeats 2000000 in
set_option maxRecDepth 1000000 in
theorem rdivide_one (x y : Nat) (A0 A1 : Option Addr) (c0 c1 : Nat) (w : World) (hx : Kd.C (Kd.int .u32) w A0 (nl x) (dig x)) (hc0 : nl x ≤ c0) (hy : Kd.C (Kd.int .u32) w A1 1 (dig y)) (hc1 : 1 ≤ c1)
    (hxs : nl x ≤ 17592186044416) (hle : y ≤ x) (h0 : 0 < y) (hyB : y < 4294967296) :
    Calls Tryd.prog 96 #[.slice A0 (nl x) c0, .slice A1 1 c1] w fun e w' => ∃ v0 v1, e = .returned (.tuple #[v0, v1]) ∧ Rd w' v0 (dig (x / y)) ∧ Rd w' v1 (dig (x % y)) ∧ Below w.heap.size w w' := by
  have hny : nl y = 1 := nl_one h0 hyB
  obtain ⟨ad, eA, hcell⟩ := Kd.at_int hy 0 (by omega) (by omega)
  have hq : rd (dig y) 0 = (y : Int) := by rw [dig_one hyB (by omega)]; rfl
  rw [hq] at hcell
  subst eA
  have hcell' : w.cell? ad = some (.int .u32 (y : Int)) := by simpa [Addr.add] using hcell
  obtain ⟨c, hcm⟩ : ∃ c, cmp x y = c := ⟨_, rfl⟩
  have hc := fun W (hd : Drawn0 w W) => rorder_calls (c1 := c1) (C_drawn hx hd) hc0 (by rw [hny]; exact C_drawn hy hd) (by rw [hny]; exact hc1) hxs
  have hs := fun W (hd : Drawn0 w W) => rshort_calls (d := y) (C_drawn hx hd) hc0 hxs h0 hyB
  rw [hcm, hny] at hc
  have hcn : decide ((c : Int) < 0) = false := decide_eq_false (by have := cmp_ge hle; omega)
  have HC := Aside0.mk hc
  have HS := Aside0.mk hs
  have hr := Nat.mod_lt x h0
  obtain ⟨r, hr0⟩ : ∃ r, x % y = r := ⟨_, rfl⟩
  rw [hr0] at HS hr
  have Hr := Aside0.mk hr0
  clear hc hs hx hy hcm hcell hq hr0 hny
  go_enter Tryd.func96, Tryd.ntmps96
  go_wp2_with (first | (go_at_call 100; refine (HC.out _ (Drawn0.refl _)).mono ?_; rintro e w' ⟨rfl, ⟨n, rfl⟩⟩) | (go_at_call 101; refine (HS.out _ ⟨⟨_, rfl⟩⟩).mono ?_; rintro e w1 ⟨v1, rfl, hR1, hb1⟩) | (go_at_call 97; refine (rstrip1_calls w1 (Nat.lt_trans hr hyB)).mono ?_; rintro e w2 ⟨v2, rfl, hR2, hb2⟩))
  go_ret2
  refine ⟨v1, v2, rfl, hR1.below hb2, by rw [Hr.out]; exact hR2, ?_⟩
  exact below_step (w := w) (W := w.drewN n) (pw_below_drewN (Below.refl _ _) _) (below_step hb1 hb2)

set_option maxHeartbeats 2000000 in
set_option maxRecDepth 1000000 in
theorem rlong_arm (x y n m : Nat) (A0 A1 : Option Addr) (c0 c1 : Nat) (w : World) (hx : Kd.C (Kd.int .u32) w A0 (n + 2 + m) (dig x)) (hc0 : n + 2 + m ≤ c0) (hy : Kd.C (Kd.int .u32) w A1 (n + 2) (dig y)) (hc1 : n + 2 ≤ c1)
    (hxs : nl x ≤ 17592186044416) (hle : y ≤ x) (hn : nl y = n + 2) (hm : nl x = n + 2 + m) :
    Calls Tryd.prog 96 #[.slice A0 (n + 2 + m) c0, .slice A1 (n + 2) c1] w fun e w' => ∃ v0 v1, e = .returned (.tuple #[v0, v1]) ∧ Rd w' v0 (dig (x / y)) ∧ Rd w' v1 (dig (x % y)) ∧ Below w.heap.size w w' := by
  obtain ⟨c, hcm⟩ : ∃ c, cmp x y = c := ⟨_, rfl⟩
  have hc := rorder_calls (w := w) (x := x) (y := y) (A0 := A0) (A1 := A1) (c0 := c0) (c1 := c1) (by rw [hm]; exact hx) (by rw [hm]; exact hc0) (by rw [hn]; exact hy) (by rw [hn]; exact hc1) hxs
  have hl := fun W (hd : Drawn0 w W) => rlong_calls x y n m A0 A1 c0 c1 W (C_drawn hx hd) hc0 (C_drawn hy hd) hc1 hxs hle hn hm
  rw [hcm, hm, hn] at hc
  have hcn : decide ((c : Int) < 0) = false := decide_eq_false (by have := cmp_ge hle; omega)
  have h1 : ((n : Int) + 2 == 1) = false := by simp; omega
  have HC := Aside0.mk hc
  have HL := Aside0.mk hl
  clear hc hl hx hy hcm hle hn hm hxs
  go_enter Tryd.func96, Tryd.ntmps96
  go_wp2_with (first | (go_at_call 100; (with_reducible refine HC.out.mono ?_); rintro e w1 ⟨rfl, hd⟩; have HD := Aside0.mk hd; clear hd) | (go_at_call 102; (with_reducible refine (HL.out _ HD.out).mono ?_); rintro e w2 ⟨v0, v1, rfl, h0, h1, hb⟩; have H0 := Aside0.mk h0; have H1 := Aside0.mk h1; have HB := Aside0.mk hb; clear h0 h1 hb))
  go_ret2
  exact ⟨v0, v1, rfl, H0.out, H1.out, below_drawn HD.out HB.out⟩
section
variable {w w0 : World} {x y : Nat} {A0 A1 : Option Addr} {c0 c1 : Nat}
theorem rdivide_n (hx : Nr w A0 c0 x) (hy : Nr w A1 c1 y) (hxs : Sm x) (hys : Sm y) (h0 : 0 < y) :
    Calls Tryd.prog 96 #[.slice A0 (nl x) c0, .slice A1 (nl y) c1] w fun e w' => ∃ A2 c2 A3 c3, e = .returned (.tuple #[.slice A2 (nl (x / y)) c2, .slice A3 (nl (x % y)) c3]) ∧ Nr w' A2 c2 (x / y) ∧ Nr w' A3 c3 (x % y) ∧ Below w.heap.size w w' := by
  have hxl := hxs.nl
  have hyl := hys.nl
  by_cases hlt : x < y
  · refine (rdivide_lt x y A0 A1 c0 c1 w hx.cells hx.cap hy.cells hy.cap (by omega) (by omega) hlt).mono ?_
    rintro e w' ⟨rfl, hd⟩
    rw [Nat.div_eq_of_lt hlt, Nat.mod_eq_of_lt hlt, nl_zero]
    refine ⟨none, 0, A0, c0, rfl, ⟨by rw [nl_zero]; exact Nat.le_refl _, ?_⟩, hx.below hd.below, hd.below⟩
    rw [nl_zero, dig_zero]
    exact Kd.C_nil _ _
  · have fin : ∀ (e : Ending) (w' : World), (∃ v0 v1, e = .returned (.tuple #[v0, v1]) ∧ Rd w' v0 (dig (x / y)) ∧ Rd w' v1 (dig (x % y)) ∧ Below w.heap.size w w') → ∃ A2 c2 A3 c3, e = .returned (.tuple #[.slice A2 (nl (x / y)) c2, .slice A3 (nl (x % y)) c3]) ∧ Nr w' A2 c2 (x / y) ∧ Nr w' A3 c3 (x % y) ∧ Below w.heap.size w w' := by
      rintro e w' ⟨v0, v1, rfl, h0, h1, hb⟩
      obtain ⟨A2, c2, rfl, h2⟩ := h0.nr
      obtain ⟨A3, c3, rfl, h3⟩ := h1.nr
      exact ⟨A2, c2, A3, c3, rfl, h2, h3, hb⟩
    by_cases hB : y < 4294967296
    · have h1 := nl_one h0 hB
      have := rdivide_one x y A0 A1 c0 c1 w hx.cells hx.cap (by rw [← h1]; exact hy.cells) (by rw [← h1]; exact hy.cap) (by omega) (by omega) h0 hB
      rw [← h1] at this
      exact this.mono fin
    · obtain ⟨n, hn⟩ : ∃ n, nl y = n + 2 := ⟨nl y - 2, by
        have : 1 < nl y := by
          have h := nl_lt y
          rcases Nat.lt_or_ge 1 (nl y) with h2 | h2
          · exact h2
          · exfalso
            have h3 : B ^ nl y ≤ B ^ 1 := Nat.pow_le_pow_right B0 h2
            rw [Nat.pow_one] at h3
            have h4 := Nat.lt_of_lt_of_le h h3
            unfold B at h4
            omega
        omega⟩
      obtain ⟨m, hm⟩ : ∃ m, nl x = n + 2 + m := ⟨nl x - (n + 2), by
        have := nl_mono (show y ≤ x by omega)
        omega⟩
      have := rlong_arm x y n m A0 A1 c0 c1 w (by rw [← hm]; exact hx.cells) (by rw [← hm]; exact hx.cap) (by rw [← hn]; exact hy.cells) (by rw [← hn]; exact hy.cap) (by omega) (by omega) hn hm
      rw [← hm, ← hn] at this
      exact this.mono fin
theorem rdivide_nB (hx : Nr w A0 c0 x) (hy : Nr w A1 c1 y) (hB : Below w0.heap.size w0 w) (hxs : Sm x) (hys : Sm y) (h0 : 0 < y) :
    Calls Tryd.prog 96 #[.slice A0 (nl x) c0, .slice A1 (nl y) c1] w fun e w' => ∃ A2 c2 A3 c3, e = .returned (.tuple #[.slice A2 (nl (x / y)) c2, .slice A3 (nl (x % y)) c3]) ∧ Nr w' A2 c2 (x / y) ∧ Nr w' A3 c3 (x % y) ∧ Below w.heap.size w w' ∧ Below w0.heap.size w0 w' :=
  (rdivide_n hx hy hxs hys h0).mono fun e w' ⟨A2, c2, A3, c3, he, h2, h3, hb⟩ => ⟨A2, c2, A3, c3, he, h2, h3, hb, below_step hB hb⟩
theorem Nr.rd (h : Nr w A0 c0 x) : Rd w (.slice A0 (nl x) c0) (dig x) := ⟨A0, c0, by rw [length_dig], by rw [length_dig]; exact h.cap, by rw [length_dig]; exact h.cells⟩
theorem nl_pos' {n : Nat} (h : 0 < n) : 0 < nl n := by
  rcases Nat.eq_zero_or_pos (nl n) with h2 | h2
  · exfalso
    have := nl_lt n
    rw [h2, Nat.pow_zero] at this
    omega
  · exact h2
theorem rtext_n (hN : Nr w A0 c0 x) (hB : Below w0.heap.size w0 w) (hx : Sm x) (h0 : 0 < x) :
    Calls Tryd.prog 89 #[.slice A0 (nl x) c0] w fun e w' => e = .returned (.string (enc x)) ∧ Below w.heap.size w w' ∧ Below w0.heap.size w0 w' :=
  (text_c (L := nl x) hN.rd (nl_pos' h0) (by have := hx.nl; omega) (nl_lt x)).mono fun e w' ⟨he, hb⟩ => ⟨he, hb, below_step hB hb⟩
theorem rlimbs_n (hB : Below w0.heap.size w0 w) (hx : Sm x) :
    Calls Tryd.prog 87 #[.string (enc x)] w fun e w' => ∃ A c, e = .returned (.slice A (nl x) c) ∧ Nr w' A c x ∧ Below w.heap.size w w' ∧ Below w0.heap.size w0 w' := by
  refine (limbs_c (w := w) (enc x) (by have := hx.size; omega)).mono ?_
  rintro e w' ⟨v, rfl, hR, hb⟩
  rw [sv_enc] at hR
  obtain ⟨A, c, rfl, hN⟩ := hR.nr
  exact ⟨A, c, rfl, hN, hb, below_step hB hb⟩
end
set_option maxHeartbeats 2000000 in
set_option maxRecDepth 1000000 in
theorem rcommon_n {w0 w : World} {x y : Nat} {A0 A1 : Option Addr} {c0 c1 : Nat} (hX : Nr w A0 c0 x) (hY : Nr w A1 c1 y) (hB : Below w0.heap.size w0 w) (hx : Sm x) (hy : Sm y) :
    Calls Tryd.prog 95 #[.slice A0 (nl x) c0, .slice A1 (nl y) c1] w fun e w' => ∃ A c, e = .returned (.slice A (nl (Nat.gcd x y)) c) ∧ Nr w' A c (Nat.gcd x y) ∧ Below w.heap.size w w' ∧ Below w0.heap.size w0 w' := by
  have H0 := Aside0.mk hB
  have HN1 := Aside0.mk hX
  have HN2 := Aside0.mk hY
  have HB0 : Aside0 (Below w.heap.size w w) := ⟨Below.refl _ _⟩
  clear hB hX hY
  go_enter Tryd.func95, Tryd.ntmps95
  go_wp2
  go_loopw [0, 1] (fun v0 v1 wr => ∃ (a b : Nat) (P Q : Option Addr) (p q : Nat), v0 = .slice P (nl a) p ∧ v1 = .slice Q (nl b) q ∧ Aside0 (Nr wr P p a) ∧ Aside0 (Nr wr Q q b) ∧ Aside0 (Sm a) ∧ Aside0 (Sm b) ∧ Aside0 (Nat.gcd a b = Nat.gcd x y) ∧ Aside0 (Below w.heap.size w wr)) (fun _ v1 wr => numOf wr v1)
  case atStart => exact ⟨x, y, A0, A1, c0, c1, rfl, rfl, HN1, HN2, ⟨hx⟩, ⟨hy⟩, ⟨rfl⟩, HB0⟩
  case round =>
    clear HN1 HN2 HB0
    obtain ⟨a, b, P, Q, p, q, rfl, rfl, HP, HQ, Ha, Hb, Hg, HB⟩ := hrel
    rcases Nat.eq_zero_or_pos b with h0 | h0
    · obtain rfl := h0
      have hz : nl 0 = 0 := nl_zero
      have hg : a = Nat.gcd x y := by rw [← Hg.out, Nat.gcd_zero_right]
      have HG := Aside0.mk hg
      rw [hz]
      clear hg hz
      go_wp2
      go_ret
      exact ⟨P, p, by rw [← HG.out]; rfl, by rw [← HG.out]; exact HP.out, HB.out, below_step H0.out HB.out⟩
    · have hpos := nl_pos' h0
      have hd : decide (0 < (nl b : Int)) = true := decide_eq_true (by omega)
      go_wp2_with (go_at_call 96; (with_reducible refine (rdivide_nB HP.out HQ.out HB.out Ha.out Hb.out h0).mono ?_); rintro e w3 ⟨A3, c3, A4, c4, rfl, hN3, hN4, hb3, hB3⟩; have HB3 := Aside0.mk hB3; have HN4 := Aside0.mk hN4; have HQ3 := Aside0.mk (HQ.out.below hb3); clear hb3 hB3 hN3 hN4)
      go_roundw
      case rel => exact ⟨b, a % b, Q, A4, q, c4, rfl, rfl, HQ3, HN4, Hb, ⟨Hb.out.le (Nat.le_of_lt (Nat.mod_lt _ h0))⟩, ⟨by rw [Nat.gcd_comm, ← Nat.gcd_rec, Nat.gcd_comm]; exact Hg.out⟩, HB3⟩
      case measure =>
        rw [numOf_nr HN4.out, numOf_nr HQ.out]
        exact Nat.mod_lt _ h0

theorem cell0_of {w : World} {A : Option Addr} {c x : Nat} (h : Nr w A c x) (h0 : 0 < x) : ∃ ad, A = some ad ∧ w.cell? ad = some (.int .u32 ((x % B : Nat) : Int)) := by
  have hp := nl_pos' h0
  obtain ⟨ad, e, hc⟩ := Kd.at_int h.cells 0 (by omega) (by omega)
  refine ⟨ad, e, ?_⟩
  have := rd_dig (n := x) (j := 0) hp
  rw [Nat.pow_zero, Nat.div_one] at this
  rw [show ((0 : Nat) : Int) = 0 from rfl] at this
  rw [this] at hc
  simpa [Addr.add] using hc
/-- A number is greater than 1 if it has several digits, or its first one is. -/
theorem gt_one {x : Nat} (h0 : 0 < x) : (1 < nl x → 1 < x) ∧ (¬ 1 < nl x → x % B = x) := by
  refine ⟨fun h => ?_, fun h => ?_⟩
  · rcases Nat.lt_or_ge 1 x with h2 | h2
    · exact h2
    · exfalso
      have := nl_le (n := x) (L := 1) (by unfold B; omega)
      omega
  · refine Nat.mod_eq_of_lt ?_
    have h2 := nl_lt x
    have : B ^ nl x ≤ B ^ 1 := Nat.pow_le_pow_right B0 (by omega)
    rw [Nat.pow_one] at this
    omega
theorem big_cases {x : Nat} (h0 : 0 < x) : (decide (1 < (nl x : Int)) = true ∧ decide (1 < x) = true) ∨ (decide (1 < (nl x : Int)) = false ∧ decide (1 < x) = true ∧ decide ((1 : Int) < ((x % B : Nat) : Int)) = true ∧ (0 : Int) < (nl x : Int)) ∨ (decide (1 < (nl x : Int)) = false ∧ decide (1 < x) = false ∧ decide ((1 : Int) < ((x % B : Nat) : Int)) = false ∧ (0 : Int) < (nl x : Int)) := by
  have h1 := gt_one h0
  have hp := nl_pos' h0
  by_cases c1 : 1 < nl x
  · exact .inl ⟨decide_eq_true (by omega), decide_eq_true (h1.1 c1)⟩
  · have h2 := h1.2 c1
    rw [h2]
    by_cases c2 : 1 < x
    · exact .inr (.inl ⟨decide_eq_false (by omega), decide_eq_true c2, decide_eq_true (by omega), by omega⟩)
    · exact .inr (.inr ⟨decide_eq_false (by omega), decide_eq_false c2, decide_eq_false (by omega), by omega⟩)
set_option maxHeartbeats 2000000 in
set_option maxRecDepth 1000000 in
theorem rreduced_c {w0 w : World} {b : Bool} {n d : Nat} {A0 A1 : Option Addr} {c0 c1 : Nat} (hN : Nr w A0 c0 n) (hD : Nr w A1 c1 d) (hB : Below w0.heap.size w0 w) (hd : 0 < d) (hn : Sm n) (hds : Sm d) :
    Calls Tryd.prog 88 #[.bool b, .slice A0 (nl n) c0, .slice A1 (nl d) c1] w fun e w' => e = .returned (rv (qq b n d)) ∧ Below w0.heap.size w0 w' := by
  have H0 := Aside0.mk hB
  have hg : 0 < Nat.gcd n d := Nat.gcd_pos_of_pos_right n hd
  have hgs : Sm (Nat.gcd n d) := hds.le (Nat.gcd_le_right n hd)
  obtain ⟨W, hW⟩ : ∃ W, w.alloc (.cells #[.bool false, .string ⟨#[]⟩, .string ⟨#[]⟩] 27) = W := ⟨_, rfl⟩
  have hbW : Below w.heap.size w W := hW ▸ below_alloc (Below.refl _ _) _
  have HX : Aside0 (Bx W w.heap.size (.bool false) (.string ⟨#[]⟩) (.string ⟨#[]⟩)) := ⟨hW ▸ Bx.alloc _ _ _ _ _⟩
  have HW : Aside0 (Below w0.heap.size w0 W) := ⟨below_step hB hbW⟩
  have HNN := Aside0.mk (hN.below hbW)
  have HDD := Aside0.mk (hD.below hbW)
  have HE := Aside0.mk hW
  obtain ⟨r, hr⟩ : ∃ r, rv (qq b n d) = r := ⟨_, rfl⟩
  rw [hr]
  have HR := Aside0.mk hr
  have HSn := Aside0.mk hn
  have HSd := Aside0.mk hds
  have HG := Aside0.mk (And.intro hd (And.intro hg hgs))
  clear hB hW hN hD hbW hr hn hds hg hgs hd
  go_enter Tryd.func88, Tryd.ntmps88
  go_upto_region 1 with (fail)
  rw [HE.out]
  by_cases hn0 : n = 0
  · have hl : nl n = 0 := by rw [hn0, nl_zero]
    have HN0 := Aside0.mk hn0
    rw [hl]
    clear hn0 hl
    have kx := (HX.out); have kx0 := kx.c0; have kx1 := kx.c1; have kx2 := kx.c2; have fx0 := kx.f0; have fx1 := kx.f1; have fx2 := kx.f2; clear kx
    go_wp2
    clear kx0 kx1 kx2 fx0 fx1 fx2
    refine bodyPost_ret (results_bx rfl rfl (HX.out.set _ _ _)) rfl ?_
    refine ⟨?_, below_set3 HW.out H0.out.size⟩
    rw [← HR.out, HN0.out, qq_zero, rv_zero]
  · have hnp := nl_pos' (Nat.pos_of_ne_zero hn0)
    have hl : ((nl n : Int) == 0) = false := by simp; omega
    have HN0 : Aside0 (0 < n) := ⟨Nat.pos_of_ne_zero hn0⟩
    clear hn0 hnp
    go_upto_region 4 with (go_at_call 95; (with_reducible refine (rcommon_n (w0 := w0) HNN.out HDD.out HW.out HSn.out HSd.out).mono ?_); rintro e w1 ⟨Ag, cg, rfl, hNg, hb, hB1⟩; have HNg := Aside0.mk hNg; have HB1 := Aside0.mk hB1; replace HX := Aside0.mk (HX.out.below hb); have HN1 := Aside0.mk (HNN.out.below hb); have HD1 := Aside0.mk (HDD.out.below hb); clear hNg hb hB1)
    clear hl
    obtain ⟨g, hgE⟩ : ∃ g, Nat.gcd n d = g := ⟨_, rfl⟩
    rw [hgE] at HNg HG ⊢
    have HGE := Aside0.mk hgE
    clear hgE HNN HDD HW
    have HSq : Aside0 (Sm (n / g) ∧ Sm (d / g) ∧ 0 < n / g ∧ 0 < d / g) := ⟨by
      have h1 := HG.out.2.1
      have h2 := HN0.out
      have h3 := HG.out.1
      refine ⟨HSn.out.le (Nat.div_le_self _ _), HSd.out.le (Nat.div_le_self _ _), Nat.div_pos ?_ h1, Nat.div_pos ?_ h1⟩
      · rw [← HGE.out]; exact Nat.gcd_le_left d h2
      · rw [← HGE.out]; exact Nat.gcd_le_right n h3⟩
    have HBIG := Aside0.mk (big_cases (x := g) HG.out.2.1)
    go_cut [24] (fun v24 wc => v24 = .bool (decide (1 < g)) ∧ wc = w1)
    case first =>
      obtain ⟨ad, rfl, hc0⟩ := cell0_of HNg.out HG.out.2.1
      obtain ⟨x0, hx0⟩ : ∃ x, g % B = x := ⟨_, rfl⟩
      rw [hx0] at hc0
      rcases HBIG.out with ⟨h1, h2⟩ | ⟨h1, h2, h3, h4⟩ | ⟨h1, h2, h3, h4⟩
      · have H2 := Aside0.mk h2
        clear h2 hx0
        go_wp2
        go_meet
        exact ⟨by rw [H2.out], rfl⟩
      · have H2 := Aside0.mk h2
        rw [hx0] at h3
        clear h2 hx0
        go_wp2
        go_meet
        exact ⟨by rw [H2.out], rfl⟩
      · have H2 := Aside0.mk h2
        rw [hx0] at h3
        clear h2 hx0
        go_wp2
        go_meet
        exact ⟨by rw [H2.out], rfl⟩
    case rest =>
      obtain ⟨rfl, rfl⟩ := hcut
      go_upto_if 24 with (fail)
      go_cut [1, 2] (fun v1 v2 wc => ∃ P p Q q, v1 = .slice P (nl (n / g)) p ∧ v2 = .slice Q (nl (d / g)) q ∧ Aside0 (Nr wc P p (n / g)) ∧ Aside0 (Nr wc Q q (d / g)) ∧ Aside0 (Bx wc w.heap.size (.bool false) (.string ⟨#[]⟩) (.string ⟨#[]⟩)) ∧ Aside0 (Below w0.heap.size w0 wc))
      case first =>
        have HGP := Aside0.mk HG.out.2.1
        have HGS := Aside0.mk HG.out.2.2
        by_cases c2 : 1 < g
        · have hd1 : decide (1 < g) = true := decide_eq_true c2
          rw [hd1]
          clear c2 hd1
          go_wp2_with (go_at_call 96; (first | ((with_reducible refine (rdivide_nB HN1.out HNg.out HB1.out HSn.out HGS.out HGP.out).mono ?_); rintro e w3 ⟨A3, c3, A4, c4, rfl, hN3, _, hb3, hB3⟩; have HB3 := Aside0.mk hB3; have HN3 := Aside0.mk hN3; have HD3 := Aside0.mk (HD1.out.below hb3); have HNg3 := Aside0.mk (HNg.out.below hb3); replace HX := Aside0.mk (HX.out.below hb3); clear hb3 hB3 hN3) | ((with_reducible refine (rdivide_nB HD3.out HNg3.out HB3.out HSd.out HGS.out HGP.out).mono ?_); rintro e w4 ⟨A5, c5, A6, c6, rfl, hN5, _, hb5, hB5⟩; have HB5 := Aside0.mk hB5; have HN5 := Aside0.mk hN5; have HN35 := Aside0.mk (HN3.out.below hb5); replace HX := Aside0.mk (HX.out.below hb5); clear hb5 hB5 hN5)))
          go_meet
          exact ⟨_, _, _, _, rfl, rfl, HN35, HN5, HX, HB5⟩
        · have hd1 : decide (1 < g) = false := decide_eq_false c2
          have hge : g = 1 := by have := HGP.out; omega
          have HGO : Aside0 (n / g = n ∧ d / g = d) := ⟨by rw [hge, Nat.div_one, Nat.div_one]; exact ⟨rfl, rfl⟩⟩
          rw [hd1]
          clear c2 hd1 hge
          go_wp2
          go_meet
          refine ⟨A0, c0, A1, c1, ?_, ?_, ⟨?_⟩, ⟨?_⟩, HX, HB1⟩
          · rw [HGO.out.1]
          · rw [HGO.out.2]
          · rw [HGO.out.1]; exact HN1.out
          · rw [HGO.out.2]; exact HD1.out
      case rest =>
        clear HX HB1 HN1 HD1 HNg HBIG
        obtain ⟨P, p, Q, q, rfl, rfl, HN1, HD1, HX, HB1⟩ := hcut
        have HRV : Aside0 (r = .agg #[.bool b, .string (enc (n / g)), .string (encD (d / g))]) := ⟨by
          rw [← HR.out, rv_qq HG.out.1 (by have := HN0.out; omega), HGE.out]⟩
        obtain ⟨n1, hn1⟩ : ∃ x, n / g = x := ⟨_, rfl⟩
        obtain ⟨d1, hd1⟩ : ∃ x, d / g = x := ⟨_, rfl⟩
        rw [hn1] at HN1 HSq HRV ⊢
        rw [hd1] at HD1 HSq HRV ⊢
        clear hn1 hd1 HG HGE HR HN0 HSn HSd
        go_upto_region 8 with (go_at_call 89; (with_reducible refine (rtext_n HN1.out HB1.out HSq.out.1 HSq.out.2.2.1).mono ?_); rintro e w3 ⟨rfl, hb, hB3⟩; have HB3 := Aside0.mk hB3; have HD3 := Aside0.mk (HD1.out.below hb); replace HX := Aside0.mk (HX.out.below hb); clear hb hB3)
        obtain ⟨p8, hp8⟩ : ∃ x, w3.heap.size = x := ⟨_, rfl⟩
        obtain ⟨w4, hw4, HY, hV⟩ := box1 w3 (.bool b) (.string (enc n1)) (.string ⟨#[]⟩) 27
        rw [hw4]
        have HPP : Aside0 (w.heap.size < p8 ∧ w0.heap.size ≤ w.heap.size) := ⟨hp8 ▸ HX.out.lt, H0.out.size⟩
        rw [hp8] at HY ⊢
        replace HX := Aside0.mk (HX.out.below hV)
        have HD4 := Aside0.mk (HD3.out.below hV)
        have HB4 := Aside0.mk (below_step HB3.out hV)
        clear hw4 hp8 hV HB1 HN1 HD1 HB3 HD3
        have HBIG := Aside0.mk (big_cases (x := d1) HSq.out.2.2.2)
        go_cut [49] (fun v49 wc => v49 = .bool (decide (1 < d1)) ∧ wc = w4)
        case first =>
          obtain ⟨ad, rfl, hc0⟩ := cell0_of HD4.out HSq.out.2.2.2
          obtain ⟨x0, hx0⟩ : ∃ x, d1 % B = x := ⟨_, rfl⟩
          rw [hx0] at hc0
          rcases HBIG.out with ⟨h1, h2⟩ | ⟨h1, h2, h3, h4⟩ | ⟨h1, h2, h3, h4⟩
          · have H2 := Aside0.mk h2
            clear h2 hx0
            go_wp2
            go_meet
            exact ⟨by rw [H2.out], rfl⟩
          · have H2 := Aside0.mk h2
            rw [hx0] at h3
            clear h2 hx0
            go_wp2
            go_meet
            exact ⟨by rw [H2.out], rfl⟩
          · have H2 := Aside0.mk h2
            rw [hx0] at h3
            clear h2 hx0
            go_wp2
            go_meet
            exact ⟨by rw [H2.out], rfl⟩
        case rest =>
          obtain ⟨rfl, rfl⟩ := hcut
          clear HBIG
          by_cases c2 : 1 < d1
          · have hd1 : decide (1 < d1) = true := decide_eq_true c2
            have HC2 := Aside0.mk c2
            rw [hd1]
            clear c2 hd1
            have hne : ¬ (w.heap.size = p8) := by have := HPP.out.1; omega
            have hne2 : ¬ (p8 = w.heap.size) := by have := HPP.out.1; omega
            go_wp2_with (go_at_call 89; (with_reducible refine (rtext_n HD4.out HB4.out HSq.out.2.1 HSq.out.2.2.2).mono ?_); rintro e w5 ⟨rfl, hb, hB5⟩; have HB5 := Aside0.mk hB5; replace HX := Aside0.mk (HX.out.below hb); replace HY := Aside0.mk (HY.out.below hb); clear hb hB5; have kx := (HX.out); have kx0 := kx.c0; have kx1 := kx.c1; have kx2 := kx.c2; have fx0 := kx.f0; have fx1 := kx.f1; have fx2 := kx.f2; clear kx; have kx := (HY.out); have ky0 := kx.c0; have ky1 := kx.c1; have ky2 := kx.c2; have fy0 := kx.f0; have fy1 := kx.f1; have fy2 := kx.f2; clear kx)
            clear kx0 kx1 kx2 fx0 fx1 fx2 ky0 ky1 ky2 fy0 fy1 fy2 hne hne2
            have HX2 := Aside0.mk (HX.out.other (h := p8) (j := 2) (u := .string (enc d1)) (Nat.ne_of_lt HPP.out.1))
            have HB6 := Aside0.mk (below_set (g := p8) (j := 2) (v := .string (enc d1)) HB5.out (show w0.heap.size ≤ p8 by have := HPP.out; omega))
            refine bodyPost_ret (results_bx rfl rfl (HX2.out.set _ _ _)) rfl ?_
            refine ⟨?_, below_set3 HB6.out HPP.out.2⟩
            rw [HRV.out]
            unfold encD
            rw [if_neg (by have := HC2.out; omega)]
          · have hd1 : decide (1 < d1) = false := decide_eq_false c2
            have HC2 : Aside0 (d1 = 1) := ⟨by have := HSq.out.2.2.2; omega⟩
            rw [hd1]
            clear c2 hd1
            have kx := (HX.out); have kx0 := kx.c0; have kx1 := kx.c1; have kx2 := kx.c2; have fx0 := kx.f0; have fx1 := kx.f1; have fx2 := kx.f2; clear kx
            have kx := (HY.out); have ky0 := kx.c0; have ky1 := kx.c1; have ky2 := kx.c2; have fy0 := kx.f0; have fy1 := kx.f1; have fy2 := kx.f2; clear kx
            go_wp2
            clear kx0 kx1 kx2 fx0 fx1 fx2 ky0 ky1 ky2 fy0 fy1 fy2
            refine bodyPost_ret (results_bx rfl rfl (HX.out.set _ _ _)) rfl ?_
            refine ⟨?_, below_set3 HB4.out HPP.out.2⟩
            rw [HRV.out]
            unfold encD
            rw [if_pos HC2.out]
end Go.Proofs.YtiamgjepcagohaaDoor.P
end
section
/- The reference's numbers out of integers. -/
namespace Go.Proofs.YtiamgjepcagohaaDoor.P
open Go Go.RowKit Go.Proofs.YtiamgjepcagohaaDoorW.PrintWords Go.Proofs.YtiamgjepcagohaaDoorW.PrintLast Go.Proofs.YtiamgjepcagohaaDoorW.PrintMore Go.Proofs.YtiamgjepcagohaaDoor.Ari

theorem R_lit2 (W : World) (r s : Int) (e : Nat) : Kd.R (Kd.int .u32) e (W.alloc (.cells #[.int .u32 r, .int .u32 s] e)) W.heap.size (fun _ => True) (.slice (some ⟨W.heap.size, 0, none⟩) 2 2) [r, s] := by
  refine ⟨fun _ _ => trivial, [.int .u32 r, .int .u32 s], ?_, Reps.one (show Kd.M (Kd.int .u32) _ _ _ r [.int .u32 r] from rfl) (Reps.one (show Kd.M (Kd.int .u32) _ _ _ s [.int .u32 s] from rfl) (Reps.none _ _))⟩
  have h2 := World.ownsRow_lit (base := W.heap.size) (e := e) (size := 1) W #[.int .u32 r, .int .u32 s] 2 (Nat.le_refl _) (by decide) (by simp)
  show (W.alloc (.cells #[.int .u32 r, .int .u32 s] e)).ownsRow W.heap.size e 1 (.slice (some ⟨W.heap.size, 0, none⟩) 2 2) 2 [.int .u32 r, .int .u32 s]
  simpa using h2
theorem digN_two (u : Nat) : digN 2 u = [((u % B : Nat) : Int), ((u / B % B : Nat) : Int)] := by
  show [((u / B ^ 0 % B : Nat) : Int), ((u / B ^ 1 % B : Nat) : Int)] = _
  rw [Nat.pow_zero, Nat.pow_one, Nat.div_one]
set_option maxHeartbeats 2000000 in
set_option maxRecDepth 1000000 in
theorem rFromUint_c {w0 w : World} {u : Nat} (hB : Below w0.heap.size w0 w) (hu : u < 18446744073709551616) :
    Calls Tryd.prog 74 #[.int .u64 (u : Int)] w fun e w' => e = .returned (.string (enc u)) ∧ Below w0.heap.size w0 w' := by
  have H0 := Aside0.mk hB
  have hl : u < B ^ 2 := by unfold B; omega
  have hd := digN_two u
  obtain ⟨a, ha⟩ : ∃ a, u % B = a := ⟨_, rfl⟩
  obtain ⟨h, hh⟩ : ∃ a, u / 4294967296 = a := ⟨_, rfl⟩
  have hb : u / B % B = h := by rw [← hh]; unfold B; omega
  have hB4 : h < 4294967296 := by omega
  rw [ha, hb] at hd
  have HT : Aside0 (∀ W : World, Calls Tryd.prog 89 #[.slice (some ⟨W.heap.size, 0, none⟩) 2 2] (W.alloc (.cells #[.int .u32 (a : Int), .int .u32 (h : Int)] 85)) fun e w' => e = .returned (.string (enc u)) ∧ Below W.heap.size W w') := ⟨fun W => by
    have h1 := Rd.of_R (R_lit2 W (a : Int) (h : Int) 85)
    rw [← hd] at h1
    exact (text_c h1 (by decide) (by decide) hl).mono fun e w' ⟨he, hb⟩ => ⟨he, below_step (below_alloc (Below.refl _ _) _) hb⟩⟩
  have r1 : (u : Int) % 4294967296 = (a : Int) := by rw [← ha]; unfold B; omega
  have r2 : (u : Int) / 4294967296 = (h : Int) := by omega
  have r3 : (h : Int) % 4294967296 = (h : Int) := by omega
  clear hB hl hd ha hh hb
  go_enter Tryd.func74, Tryd.ntmps74
  go_wp2_with (go_at_call 89; (with_reducible refine (HT.out _).mono ?_); rintro e w1 ⟨rfl, hV⟩; have HV := Aside0.mk hV; clear hV)
  go_ret
  exact ⟨rfl, below_step H0.out HV.out⟩
set_option maxHeartbeats 2000000 in
set_option maxRecDepth 1000000 in
theorem rsize_c {w0 w : World} {n : Nat} (hB : Below w0.heap.size w0 w) (hn : n < 9223372036854775808) :
    Calls Tryd.prog 75 #[.int .i64 (n : Int)] w fun e w' => e = .returned (.int .u64 (n : Int)) ∧ Below w0.heap.size w0 w' := by
  have H0 := Aside0.mk hB
  have hd : decide ((n : Int) < 0) = false := decide_eq_false (by omega)
  clear hB
  go_enter Tryd.func75, Tryd.ntmps75
  go_wp2
  go_ret
  exact ⟨rfl, H0.out⟩
set_option maxHeartbeats 2000000 in
set_option maxRecDepth 1000000 in
theorem rInt_c {w0 w : World} {n : Nat} (hB : Below w0.heap.size w0 w) (hn : n < 9223372036854775808) :
    Calls Tryd.prog 65 #[.int .i64 (n : Int)] w fun e w' => e = .returned (rv ((n : Int) : Rat)) ∧ Below w0.heap.size w0 w' := by
  have H0 := Aside0.mk hB
  obtain ⟨W, hW, HR, hbW⟩ := boxR w 27
  have HW : Aside0 (Below w0.heap.size w0 W) := ⟨below_step hB hbW⟩
  have HE := Aside0.mk hW
  have HS : Aside0 (∀ U V : World, Below U.heap.size U V → Calls Tryd.prog 75 #[.int .i64 (n : Int)] V fun e w' => e = .returned (.int .u64 (n : Int)) ∧ Below U.heap.size U w') := ⟨fun U V h => rsize_c h hn⟩
  have HF : Aside0 (∀ U V : World, Below U.heap.size U V → Calls Tryd.prog 74 #[.int .u64 (n : Int)] V fun e w' => e = .returned (.string (enc n)) ∧ Below U.heap.size U w') := ⟨fun U V h => rFromUint_c h (by omega)⟩
  have HV : Aside0 (rv ((n : Int) : Rat) = .agg #[.bool false, .string (enc n), .string ⟨#[]⟩]) := ⟨by
    unfold rv ngv encD
    rw [Rat.num_intCast, Rat.den_intCast, decide_eq_false (by omega), Int.natAbs_natCast]
    rfl⟩
  have hd : decide ((n : Int) < 0) = false := decide_eq_false (by omega)
  obtain ⟨z, hz⟩ : ∃ z, rv ((n : Int) : Rat) = z := ⟨_, rfl⟩
  rw [hz] at HV ⊢
  clear hB hW hbW hz
  go_enter Tryd.func65, Tryd.ntmps65
  go_upto_region 1 with (fail)
  rw [HE.out]
  have kx := (HR.out); have kr0 := kx.c0; have kr1 := kx.c1; have kr2 := kx.c2; have fr0 := kx.f0; have fr1 := kx.f1; have fr2 := kx.f2; clear kx
  go_wp2_with (first | (go_at_call 75; (with_reducible refine (HS.out _ _ (Below.refl _ _)).mono ?_); rintro e w1 ⟨rfl, hV⟩; replace HW := Aside0.mk (below_step HW.out hV); replace HR := Aside0.mk (HR.out.below hV); clear hV kr0 kr1 kr2 fr0 fr1 fr2; have kx := (HR.out); have kr0 := kx.c0; have kr1 := kx.c1; have kr2 := kx.c2; have fr0 := kx.f0; have fr1 := kx.f1; have fr2 := kx.f2; clear kx) | (go_at_call 74; (with_reducible refine (HF.out _ _ (Below.refl _ _)).mono ?_); rintro e w2 ⟨rfl, hV⟩; replace HW := Aside0.mk (below_step HW.out hV); replace HR := Aside0.mk (HR.out.below hV); clear hV kr0 kr1 kr2 fr0 fr1 fr2; have kx := (HR.out); have kr0 := kx.c0; have kr1 := kx.c1; have kr2 := kx.c2; have fr0 := kx.f0; have fr1 := kx.f1; have fr2 := kx.f2; clear kx))
  clear kr0 kr1 kr2 fr0 fr1 fr2
  refine bodyPost_ret (results_bx rfl rfl (HR.out.set _ _ _)) rfl ?_
  refine ⟨?_, below_set3 HW.out H0.out.size⟩
  rw [HV.out]

set_option maxHeartbeats 2000000 in
set_option maxRecDepth 1000000 in
theorem rMake_c {w0 w : World} {b : Bool} {n d : Nat} (hB : Below w0.heap.size w0 w) (hd : 0 < d) (hn : Sm n) (hds : Sm d) :
    Calls Tryd.prog 73 #[.bool b, .string (enc n), .string (enc d)] w fun e w' => e = .returned (.tuple #[rv (qq b n d), .bool true]) ∧ Below w0.heap.size w0 w' := by
  have H0 := Aside0.mk hB
  obtain ⟨W, hW, HR, hbW⟩ := boxR w 27
  have HW : Aside0 (Below w0.heap.size w0 W) := ⟨below_step hB hbW⟩
  have HE := Aside0.mk hW
  have hp := nl_pos' hd
  have hl : ((nl d : Int) == 0) = false := by simp; omega
  have HS := Aside0.mk (And.intro hn (And.intro hds hd))
  have HRD : Aside0 (∀ (U : World) (A0 A1 : Option Addr) (c0 c1 : Nat), Nr U A0 c0 n → Nr U A1 c1 d → Calls Tryd.prog 88 #[.bool b, .slice A0 (nl n) c0, .slice A1 (nl d) c1] U fun e w' => e = .returned (rv (qq b n d)) ∧ Below U.heap.size U w') := ⟨fun U A0 A1 c0 c1 h1 h2 => rreduced_c h1 h2 (Below.refl _ _) hd hn hds⟩
  obtain ⟨q, hq⟩ : ∃ q, qq b n d = q := ⟨_, rfl⟩
  rw [hq] at HRD ⊢
  clear hB hW hbW hn hds hd hp hq
  go_enter Tryd.func73, Tryd.ntmps73
  go_upto_region 1 with (fail)
  rw [HE.out]
  go_wp2_with (first | (go_at_call 87; (first | ((with_reducible refine (rlimbs_n HW.out HS.out.2.1).mono ?_); rintro e w1 ⟨A1, c1, rfl, hN, hb, hB1⟩; have HD1 := Aside0.mk hN; have HB1 := Aside0.mk hB1; replace HR := Aside0.mk (HR.out.below hb); clear hN hb hB1) | ((with_reducible refine (rlimbs_n HB1.out HS.out.1).mono ?_); rintro e w2 ⟨A2, c2, rfl, hN, hb, hB2⟩; have HN2 := Aside0.mk hN; have HB2 := Aside0.mk hB2; have HD2 := Aside0.mk (HD1.out.below hb); replace HR := Aside0.mk (HR.out.below hb); clear hN hb hB2))) | (go_at_call 88; (with_reducible refine (HRD.out _ _ _ _ _ HN2.out HD2.out).mono ?_); rintro e w3 ⟨rfl, hV⟩; have HB3 := Aside0.mk (below_step HB2.out hV); replace HR := Aside0.mk (HR.out.below hV); clear hV; have kx := (HR.out); have kr0 := kx.c0; have kr1 := kx.c1; have kr2 := kx.c2; have fr0 := kx.f0; have fr1 := kx.f1; have fr2 := kx.f2; clear kx))
  clear kr0 kr1 kr2 fr0 fr1 fr2
  refine bodyPost_ret (results_bx_tmp rfl rfl (HR.out.set _ _ _)) rfl ?_
  exact ⟨rfl, below_set3 HB3.out H0.out.size⟩

set_option maxHeartbeats 2000000 in
set_option maxRecDepth 1000000 in
theorem rFraction_c {w0 w : World} {a b : Nat} (hB : Below w0.heap.size w0 w) (hb : 0 < b) (ha1 : a < 9223372036854775808) (hb1 : b < 9223372036854775808) :
    Calls Tryd.prog 64 #[.int .i64 (a : Int), .int .i64 (b : Int)] w fun e w' => e = .returned (.tuple #[rv (qq false a b), .bool true]) ∧ Below w0.heap.size w0 w' := by
  have H0 := Aside0.mk hB
  obtain ⟨W, hW, HR, hbW⟩ := boxR w 27
  have HW : Aside0 (Below w0.heap.size w0 W) := ⟨below_step hB hbW⟩
  have HE := Aside0.mk hW
  have sm : ∀ x : Nat, x < 9223372036854775808 → Sm x := fun x hx => ⟨Nat.le_trans (nb_le (L := 8) (Nat.lt_trans hx (by decide))) (by decide)⟩
  have HSa : Aside0 (∀ U V : World, Below U.heap.size U V → Calls Tryd.prog 75 #[.int .i64 (a : Int)] V fun e w' => e = .returned (.int .u64 (a : Int)) ∧ Below U.heap.size U w') := ⟨fun U V h => rsize_c h ha1⟩
  have HSb : Aside0 (∀ U V : World, Below U.heap.size U V → Calls Tryd.prog 75 #[.int .i64 (b : Int)] V fun e w' => e = .returned (.int .u64 (b : Int)) ∧ Below U.heap.size U w') := ⟨fun U V h => rsize_c h hb1⟩
  have HFa : Aside0 (∀ U V : World, Below U.heap.size U V → Calls Tryd.prog 74 #[.int .u64 (a : Int)] V fun e w' => e = .returned (.string (enc a)) ∧ Below U.heap.size U w') := ⟨fun U V h => rFromUint_c h (by omega)⟩
  have HFb : Aside0 (∀ U V : World, Below U.heap.size U V → Calls Tryd.prog 74 #[.int .u64 (b : Int)] V fun e w' => e = .returned (.string (enc b)) ∧ Below U.heap.size U w') := ⟨fun U V h => rFromUint_c h (by omega)⟩
  have HM : Aside0 (∀ U V : World, Below U.heap.size U V → Calls Tryd.prog 73 #[.bool false, .string (enc a), .string (enc b)] V fun e w' => e = .returned (.tuple #[rv (qq false a b), .bool true]) ∧ Below U.heap.size U w') := ⟨fun U V h => rMake_c h hb (sm a ha1) (sm b hb1)⟩
  have hda : decide ((a : Int) < 0) = false := decide_eq_false (by omega)
  have hdb : decide ((b : Int) < 0) = false := decide_eq_false (by omega)
  obtain ⟨q, hq⟩ : ∃ q, qq false a b = q := ⟨_, rfl⟩
  rw [hq] at HM ⊢
  clear hB hW hbW hq sm hb ha1 hb1
  go_enter Tryd.func64, Tryd.ntmps64
  go_upto_region 1 with (fail)
  rw [HE.out]
  go_wp2_with (first | (go_at_call 75; (first | ((with_reducible refine (HSa.out _ _ (Below.refl _ _)).mono ?_); rintro e w1 ⟨rfl, hV⟩; replace HW := Aside0.mk (below_step HW.out hV); replace HR := Aside0.mk (HR.out.below hV); clear hV) | ((with_reducible refine (HSb.out _ _ (Below.refl _ _)).mono ?_); rintro e w3 ⟨rfl, hV⟩; replace HW := Aside0.mk (below_step HW.out hV); replace HR := Aside0.mk (HR.out.below hV); clear hV))) | (go_at_call 74; (first | ((with_reducible refine (HFa.out _ _ (Below.refl _ _)).mono ?_); rintro e w2 ⟨rfl, hV⟩; replace HW := Aside0.mk (below_step HW.out hV); replace HR := Aside0.mk (HR.out.below hV); clear hV) | ((with_reducible refine (HFb.out _ _ (Below.refl _ _)).mono ?_); rintro e w4 ⟨rfl, hV⟩; replace HW := Aside0.mk (below_step HW.out hV); replace HR := Aside0.mk (HR.out.below hV); clear hV))) | (go_at_call 73; (with_reducible refine (HM.out _ _ (Below.refl _ _)).mono ?_); rintro e w5 ⟨rfl, hV⟩; replace HW := Aside0.mk (below_step HW.out hV); replace HR := Aside0.mk (HR.out.below hV); clear hV; have kx := (HR.out); have kr0 := kx.c0; have kr1 := kx.c1; have kr2 := kx.c2; have fr0 := kx.f0; have fr1 := kx.f1; have fr2 := kx.f2; clear kx))
  clear kr0 kr1 kr2 fr0 fr1 fr2
  refine bodyPost_ret (results_bx_tmp rfl rfl (HR.out.set _ _ _)) rfl ?_
  exact ⟨rfl, below_set3 HW.out H0.out.size⟩
set_option maxHeartbeats 2000000 in
set_option maxRecDepth 1000000 in
theorem rOpposite_c {w0 w : World} {q : Rat} (hB : Below w0.heap.size w0 w) :
    Calls Tryd.prog 23 #[.agg #[.bool (ngv q), .string (enc q.num.natAbs), .string (encD q.den)]] w fun e w' => e = .returned (rv (-q)) ∧ Below w0.heap.size w0 w' := by
  have H0 := Aside0.mk hB
  obtain ⟨W, hW, HX, HR, hbW⟩ := box2 w (.bool (ngv q)) (.string (enc q.num.natAbs)) (.string (encD q.den)) 27
  have HW : Aside0 (Below w0.heap.size w0 W) := ⟨below_step hB hbW⟩
  have HE := Aside0.mk hW
  have he := rat_zero q
  have HV := Aside0.mk (rv_neg (q := q))
  have HQ : Aside0 (q = 0 ↔ q.num = 0) := ⟨Rat.num_eq_zero.symm⟩
  obtain ⟨s, hs⟩ : ∃ s, enc q.num.natAbs = s := ⟨_, rfl⟩
  obtain ⟨b, hb⟩ : ∃ b, ngv q = b := ⟨_, rfl⟩
  obtain ⟨t, ht⟩ : ∃ s, encD q.den = s := ⟨_, rfl⟩
  rw [hs] at he HX HE HV ⊢
  rw [ht] at HX HE HV ⊢
  have HBB := Aside0.mk hb
  rw [hb] at HX HE HV ⊢
  obtain ⟨r, hr⟩ : ∃ r, rv (-q) = r := ⟨_, rfl⟩
  rw [hr] at HV ⊢
  clear hB hW hbW hs ht hb hr
  by_cases hz : q = 0
  · rw [decide_eq_true hz] at he
    have HZ := Aside0.mk hz
    clear hz
    go_enter Tryd.func23, Tryd.ntmps23
    go_upto_region 1 with (fail)
    rw [HE.out]
    have kx := (HX.out); have kx0 := kx.c0; have kx1 := kx.c1; have kx2 := kx.c2; have fx0 := kx.f0; have fx1 := kx.f1; have fx2 := kx.f2; clear kx
    have kx := (HR.out); have kr0 := kx.c0; have kr1 := kx.c1; have kr2 := kx.c2; have fr0 := kx.f0; have fr1 := kx.f1; have fr2 := kx.f2; clear kx
    go_wp2
    clear kx0 kx1 kx2 fx0 fx1 fx2 kr0 kr1 kr2 fr0 fr1 fr2
    refine bodyPost_ret (results_bx rfl rfl (HR.out.set _ _ _)) rfl ?_
    refine ⟨?_, below_set3 HW.out (by have := H0.out.size; omega)⟩
    have h1 : b = false := by rw [← HBB.out, HZ.out]; rfl
    have h2 : decide (q.num ≠ 0) = false := decide_eq_false (fun h => h (HQ.out.1 HZ.out))
    rw [HV.out, h1, h2]
    rfl
  · rw [decide_eq_false hz] at he
    have HZ := Aside0.mk hz
    clear hz
    have hne : ¬ (w.heap.size = w.heap.size + 1) := by omega
    have hne2 : ¬ (w.heap.size + 1 = w.heap.size) := by omega
    go_enter Tryd.func23, Tryd.ntmps23
    go_upto_region 1 with (fail)
    rw [HE.out]
    have kx := (HX.out); have kx0 := kx.c0; have kx1 := kx.c1; have kx2 := kx.c2; have fx0 := kx.f0; have fx1 := kx.f1; have fx2 := kx.f2; clear kx
    have kx := (HR.out); have kr0 := kx.c0; have kr1 := kx.c1; have kr2 := kx.c2; have fr0 := kx.f0; have fr1 := kx.f1; have fr2 := kx.f2; clear kx
    go_wp2
    clear kx0 kx1 kx2 fx0 fx1 fx2 kr0 kr1 kr2 fr0 fr1 fr2 hne hne2
    have HR2 := Aside0.mk (HR.out.other (h := w.heap.size) (j := 0) (u := .bool (!b)) (by omega))
    refine bodyPost_ret (results_bx rfl rfl (HR2.out.set _ _ _)) rfl ?_
    refine ⟨?_, below_set3 (below_set HW.out H0.out.size) (by have := H0.out.size; omega)⟩
    have h1 : decide (q.num ≠ 0) = true := decide_eq_true (fun h => HZ.out (HQ.out.2 h))
    rw [HV.out, h1, Bool.and_true]

/-! the numbers that the laws are told -/
def amR (x : Nat) : Rat := if x % 5 = 0 then qq false (x / 5 % 23) (1 + x / 115 % 6) else if x % 5 = 1 then ((10 * (x / 5 % 4) : Nat) : Int) else ((x / 5 % 13 : Nat) : Int)
def sgR (x : Nat) : Rat := if x % 2 = 1 then -(amR (x / 2)) else amR (x / 2)
theorem nb_small {n : Nat} (h : n < 256) : nb n ≤ 1 := nb_le (L := 1) (by simpa using h)
theorem amR_fit (x : Nat) : Fit 1 (amR x) := by
  unfold amR
  split
  · exact Fit.qq (by omega) (nb_small (by omega)) (nb_small (by omega))
  · split
    · exact ⟨by rw [Rat.num_intCast]; exact nb_small (by rw [Int.natAbs_natCast]; omega), by rw [Rat.den_intCast, nb_one]; omega⟩
    · exact ⟨by rw [Rat.num_intCast]; exact nb_small (by rw [Int.natAbs_natCast]; omega), by rw [Rat.den_intCast, nb_one]; omega⟩
theorem sgR_fit (x : Nat) : Fit 1 (sgR x) := by
  unfold sgR
  split
  · exact (amR_fit _).neg
  · exact amR_fit _
set_option maxHeartbeats 2000000 in
set_option maxRecDepth 1000000 in
theorem Whole_c {w0 w : World} {n : Nat} (hB : Below w0.heap.size w0 w) (hn : n < 9223372036854775808) :
    Calls Tryd.prog 45 #[.int .i64 (n : Int)] w fun e w' => e = .returned (rv ((n : Int) : Rat)) ∧ Below w0.heap.size w0 w' := by
  have H0 := Aside0.mk hB
  obtain ⟨W, hW, HR, hbW⟩ := boxR w 27
  have HW : Aside0 (Below w0.heap.size w0 W) := ⟨below_step hB hbW⟩
  have HE := Aside0.mk hW
  have HI : Aside0 (∀ U V : World, Below U.heap.size U V → Calls Tryd.prog 65 #[.int .i64 (n : Int)] V fun e w' => e = .returned (rv ((n : Int) : Rat)) ∧ Below U.heap.size U w') := ⟨fun U V h => rInt_c h hn⟩
  obtain ⟨q, hq⟩ : ∃ q : Rat, ((n : Int) : Rat) = q := ⟨_, rfl⟩
  rw [hq] at HI ⊢
  clear hB hW hbW hq
  go_enter Tryd.func45, Tryd.ntmps45
  go_upto_region 1 with (fail)
  rw [HE.out]
  go_wp2_with (go_at_call 65; (with_reducible refine (HI.out _ _ (Below.refl _ _)).mono ?_); rintro e w5 ⟨rfl, hV⟩; replace HW := Aside0.mk (below_step HW.out hV); replace HR := Aside0.mk (HR.out.below hV); clear hV; have kx := (HR.out); have kr0 := kx.c0; have kr1 := kx.c1; have kr2 := kx.c2; have fr0 := kx.f0; have fr1 := kx.f1; have fr2 := kx.f2; clear kx)
  clear kr0 kr1 kr2 fr0 fr1 fr2
  refine bodyPost_ret (results_bx rfl rfl (HR.out.set _ _ _)) rfl ?_
  exact ⟨rfl, below_set3 HW.out H0.out.size⟩
set_option maxHeartbeats 2000000 in
set_option maxRecDepth 1000000 in
theorem Ratio_c {w0 w : World} {a b : Nat} (hB : Below w0.heap.size w0 w) (hb : 0 < b) (ha1 : a < 9223372036854775808) (hb1 : b < 9223372036854775808) :
    Calls Tryd.prog 44 #[.int .i64 (a : Int), .int .i64 (b : Int)] w fun e w' => e = .returned (rv (qq false a b)) ∧ Below w0.heap.size w0 w' := by
  have H0 := Aside0.mk hB
  obtain ⟨W, hW, HR, hbW⟩ := boxR w 27
  have HW : Aside0 (Below w0.heap.size w0 W) := ⟨below_step hB hbW⟩
  have HE := Aside0.mk hW
  have HF : Aside0 (∀ U V : World, Below U.heap.size U V → Calls Tryd.prog 64 #[.int .i64 (a : Int), .int .i64 (b : Int)] V fun e w' => e = .returned (.tuple #[rv (qq false a b), .bool true]) ∧ Below U.heap.size U w') := ⟨fun U V h => rFraction_c h hb ha1 hb1⟩
  obtain ⟨q, hq⟩ : ∃ q : Rat, qq false a b = q := ⟨_, rfl⟩
  rw [hq] at HF ⊢
  clear hB hW hbW hq hb ha1 hb1
  go_enter Tryd.func44, Tryd.ntmps44
  go_upto_region 1 with (fail)
  rw [HE.out]
  go_upto_region 2 with (go_at_call 64; (with_reducible refine (HF.out _ _ (Below.refl _ _)).mono ?_); rintro e w5 ⟨rfl, hV⟩; replace HW := Aside0.mk (below_step HW.out hV); replace HR := Aside0.mk (HR.out.below hV); clear hV)
  obtain ⟨p5, hp5⟩ : ∃ x, w5.heap.size = x := ⟨_, rfl⟩
  obtain ⟨w6, hw6, HX, hV⟩ := box1 w5 (.bool (ngv q)) (.string (enc q.num.natAbs)) (.string (encD q.den)) 27
  rw [hw6]
  rw [hp5] at HX ⊢
  replace HW := Aside0.mk (below_step HW.out hV); replace HR := Aside0.mk (HR.out.below hV); clear hV
  clear hw6 hp5
  have kx := (HX.out); have kx0 := kx.c0; have kx1 := kx.c1; have kx2 := kx.c2; have fx0 := kx.f0; have fx1 := kx.f1; have fx2 := kx.f2; clear kx
  have kx := (HR.out); have kr0 := kx.c0; have kr1 := kx.c1; have kr2 := kx.c2; have fr0 := kx.f0; have fr1 := kx.f1; have fr2 := kx.f2; clear kx
  go_wp2
  clear kr0 kr1 kr2 fr0 fr1 fr2 kx0 kx1 kx2 fx0 fx1 fx2
  refine bodyPost_ret (results_bx rfl rfl (HR.out.set _ _ _)) rfl ?_
  exact ⟨rfl, below_set3 HW.out H0.out.size⟩
theorem w64s {a b : Nat} (h : a < b) (hb : b ≤ 100000) : wrap64 (a : Int) = (a : Int) := i64n (by omega) (by omega)
theorem w64a {a b : Nat} (h : a < b) (hb : b ≤ 1000) : wrap64 (1 + (a : Int)) = 1 + (a : Int) := by
  have := w64s (a := 1 + a) (b := 1 + b) (by omega) (by omega)
  rw [Int.natCast_add] at this
  exact this
theorem w64m {a b : Nat} (h : a < b) (hb : b ≤ 1000) : wrap64 (10 * (a : Int)) = 10 * (a : Int) := by
  have := w64s (a := 10 * a) (b := 10 * b) (by omega) (by omega)
  rw [Int.natCast_mul] at this
  exact this
theorem w16s {a b : Nat} (h : a ≤ b) (hb : b < 65536) : IntKind.u16.wrap (a : Int) = (a : Int) := by show (a : Int) % 65536 = _; omega
set_option maxHeartbeats 2000000 in
set_option maxRecDepth 1000000 in
theorem Amount_c {w0 w : World} {x : Nat} (hB : Below w0.heap.size w0 w) (hx : x < 65536) :
    Calls Tryd.prog 22 #[.int .u16 (x : Int)] w fun e w' => e = .returned (rv (amR x)) ∧ Below w0.heap.size w0 w' := by
  have H0 := Aside0.mk hB
  obtain ⟨W, hW, HR, hbW⟩ := boxR w 27
  have HW : Aside0 (Below w0.heap.size w0 W) := ⟨below_step hB hbW⟩
  have HE := Aside0.mk hW
  obtain ⟨q, hq⟩ : ∃ q, amR x = q := ⟨_, rfl⟩
  rw [hq]
  unfold amR at hq
  obtain ⟨r5, hr5⟩ : ∃ r, x % 5 = r := ⟨_, rfl⟩
  obtain ⟨d5, hd5⟩ : ∃ r, x / 5 = r := ⟨_, rfl⟩
  rw [hr5, hd5] at hq
  have e1 : Int.tmod (x : Int) 5 = (r5 : Int) := by rw [Int.tmod_eq_emod_of_nonneg (by omega)]; omega
  have e2 : Int.tdiv (x : Int) 5 = (d5 : Int) := by rw [Int.tdiv_eq_ediv_of_nonneg (by omega)]; omega
  have w5 : IntKind.u16.wrap (d5 : Int) = (d5 : Int) := w16s (by rw [← hd5]; exact Nat.div_le_self _ _) hx
  by_cases c0 : r5 = 0
  · rw [if_pos c0] at hq
    obtain ⟨a, ha⟩ : ∃ r, d5 % 23 = r := ⟨_, rfl⟩
    obtain ⟨f, hf⟩ : ∃ r, x / 115 = r := ⟨_, rfl⟩
    obtain ⟨g, hg⟩ : ∃ r, f % 6 = r := ⟨_, rfl⟩
    rw [ha, hf, hg] at hq
    obtain ⟨s, hs⟩ : ∃ s, 1 + g = s := ⟨_, rfl⟩
    have HF : Aside0 (∀ U V : World, Below U.heap.size U V → Calls Tryd.prog 44 #[.int .i64 (a : Int), .int .i64 (s : Int)] V fun e w' => e = .returned (rv q) ∧ Below U.heap.size U w') := ⟨fun U V h => by
      have aB : a < 23 := by rw [← ha]; exact Nat.mod_lt _ (by decide)
      have gB : g < 6 := by rw [← hg]; exact Nat.mod_lt _ (by decide)
      have := Ratio_c (a := a) (b := 1 + g) h (Nat.lt_of_lt_of_le Nat.zero_lt_one (Nat.le_add_right _ _)) (Nat.lt_trans aB (by decide)) (Nat.lt_trans (Nat.add_lt_add_left gB 1) (by decide))
      rw [hq, hs] at this
      exact this⟩
    have e3 : Int.tmod (d5 : Int) 23 = (a : Int) := by rw [Int.tmod_eq_emod_of_nonneg (by omega)]; omega
    have e4 : Int.tdiv (x : Int) 115 = (f : Int) := by rw [Int.tdiv_eq_ediv_of_nonneg (by omega)]; omega
    have e5 : Int.tmod (f : Int) 6 = (g : Int) := by rw [Int.tmod_eq_emod_of_nonneg (by omega)]; omega
    have w6 : IntKind.u16.wrap (f : Int) = (f : Int) := w16s (by rw [← hf]; exact Nat.div_le_self _ _) hx
    have aB : a < 23 := by rw [← ha]; exact Nat.mod_lt _ (by decide)
    have gB : g < 6 := by rw [← hg]; exact Nat.mod_lt _ (by decide)
    have w7 : wrap64 (a : Int) = (a : Int) := w64s aB (by decide)
    have w8 : wrap64 (g : Int) = (g : Int) := w64s gB (by decide)
    have w9 : wrap64 (1 + (g : Int)) = (s : Int) := by rw [w64a gB (by decide), ← hs, Int.natCast_add]; rfl
    subst c0
    clear hB hW hbW hq hr5 hd5 ha hf hg hs aB gB hx
    go_enter Tryd.func22, Tryd.ntmps22
    go_upto_region 1 with (fail)
    rw [HE.out]
    go_wp2_with (go_at_call 44; (with_reducible refine (HF.out _ _ (Below.refl _ _)).mono ?_); rintro e w5 ⟨rfl, hV⟩; replace HW := Aside0.mk (below_step HW.out hV); replace HR := Aside0.mk (HR.out.below hV); clear hV; have kx := (HR.out); have kr0 := kx.c0; have kr1 := kx.c1; have kr2 := kx.c2; have fr0 := kx.f0; have fr1 := kx.f1; have fr2 := kx.f2; clear kx)
    clear kr0 kr1 kr2 fr0 fr1 fr2
    refine bodyPost_ret (results_bx rfl rfl (HR.out.set _ _ _)) rfl ?_
    exact ⟨rfl, below_set3 HW.out H0.out.size⟩
  · rw [if_neg c0] at hq
    by_cases c1 : r5 = 1
    · rw [if_pos c1] at hq
      obtain ⟨a, ha⟩ : ∃ r, d5 % 4 = r := ⟨_, rfl⟩
      rw [ha] at hq
      have HF : Aside0 (∀ U V : World, Below U.heap.size U V → Calls Tryd.prog 45 #[.int .i64 (10 * (a : Int))] V fun e w' => e = .returned (rv q) ∧ Below U.heap.size U w') := ⟨fun U V h => by
        have aB : a < 4 := by rw [← ha]; exact Nat.mod_lt _ (by decide)
        have := Whole_c (n := 10 * a) h (Nat.lt_trans (show 10 * a < 40 by omega) (by decide))
        rw [hq] at this
        exact this⟩
      have e3 : Int.tmod (d5 : Int) 4 = (a : Int) := by rw [Int.tmod_eq_emod_of_nonneg (by omega)]; omega
      have aB : a < 4 := by rw [← ha]; exact Nat.mod_lt _ (by decide)
      have w7 : wrap64 (a : Int) = (a : Int) := w64s aB (by decide)
      have w9 : wrap64 (10 * (a : Int)) = 10 * (a : Int) := w64m aB (by decide)
      subst c1
      clear hB hW hbW hq hr5 hd5 ha
      go_enter Tryd.func22, Tryd.ntmps22
      go_upto_region 1 with (fail)
      rw [HE.out]
      go_wp2_with (go_at_call 45; (with_reducible refine (HF.out _ _ (Below.refl _ _)).mono ?_); rintro e w5 ⟨rfl, hV⟩; replace HW := Aside0.mk (below_step HW.out hV); replace HR := Aside0.mk (HR.out.below hV); clear hV; have kx := (HR.out); have kr0 := kx.c0; have kr1 := kx.c1; have kr2 := kx.c2; have fr0 := kx.f0; have fr1 := kx.f1; have fr2 := kx.f2; clear kx)
      clear kr0 kr1 kr2 fr0 fr1 fr2
      refine bodyPost_ret (results_bx rfl rfl (HR.out.set _ _ _)) rfl ?_
      exact ⟨rfl, below_set3 HW.out H0.out.size⟩
    · rw [if_neg c1] at hq
      obtain ⟨a, ha⟩ : ∃ r, d5 % 13 = r := ⟨_, rfl⟩
      rw [ha] at hq
      have HF : Aside0 (∀ U V : World, Below U.heap.size U V → Calls Tryd.prog 45 #[.int .i64 (a : Int)] V fun e w' => e = .returned (rv q) ∧ Below U.heap.size U w') := ⟨fun U V h => by
        have aB : a < 13 := by rw [← ha]; exact Nat.mod_lt _ (by decide)
        have := Whole_c (n := a) h (Nat.lt_trans aB (by decide))
        rw [hq] at this
        exact this⟩
      have e3 : Int.tmod (d5 : Int) 13 = (a : Int) := by rw [Int.tmod_eq_emod_of_nonneg (by omega)]; omega
      have aB : a < 13 := by rw [← ha]; exact Nat.mod_lt _ (by decide)
      have w7 : wrap64 (a : Int) = (a : Int) := w64s aB (by decide)
      have c0' : ((r5 : Int) == 0) = false := by simp; omega
      have c1' : ((r5 : Int) == 1) = false := by simp; omega
      clear hB hW hbW hq hr5 hd5 ha c0 c1
      go_enter Tryd.func22, Tryd.ntmps22
      go_upto_region 1 with (fail)
      rw [HE.out]
      go_wp2_with (go_at_call 45; (with_reducible refine (HF.out _ _ (Below.refl _ _)).mono ?_); rintro e w5 ⟨rfl, hV⟩; replace HW := Aside0.mk (below_step HW.out hV); replace HR := Aside0.mk (HR.out.below hV); clear hV; have kx := (HR.out); have kr0 := kx.c0; have kr1 := kx.c1; have kr2 := kx.c2; have fr0 := kx.f0; have fr1 := kx.f1; have fr2 := kx.f2; clear kx)
      clear kr0 kr1 kr2 fr0 fr1 fr2
      refine bodyPost_ret (results_bx rfl rfl (HR.out.set _ _ _)) rfl ?_
      exact ⟨rfl, below_set3 HW.out H0.out.size⟩
set_option maxHeartbeats 2000000 in
set_option maxRecDepth 1000000 in
theorem Signed_c {w0 w : World} {x : Nat} (hB : Below w0.heap.size w0 w) (hx : x < 65536) :
    Calls Tryd.prog 8 #[.int .u16 (x : Int)] w fun e w' => e = .returned (rv (sgR x)) ∧ Below w0.heap.size w0 w' := by
  have H0 := Aside0.mk hB
  obtain ⟨W, hW, HR, hbW⟩ := boxR w 27
  have HW : Aside0 (Below w0.heap.size w0 W) := ⟨below_step hB hbW⟩
  have HE := Aside0.mk hW
  obtain ⟨q, hq⟩ : ∃ q, sgR x = q := ⟨_, rfl⟩
  rw [hq]
  unfold sgR at hq
  obtain ⟨r5, hr5⟩ : ∃ r, x % 2 = r := ⟨_, rfl⟩
  obtain ⟨d5, hd5⟩ : ∃ r, x / 2 = r := ⟨_, rfl⟩
  obtain ⟨p, hp⟩ : ∃ r, amR d5 = r := ⟨_, rfl⟩
  rw [hr5, hd5, hp] at hq
  have e1 : Int.tmod (x : Int) 2 = (r5 : Int) := by rw [Int.tmod_eq_emod_of_nonneg (by omega)]; omega
  have e2 : Int.tdiv (x : Int) 2 = (d5 : Int) := by rw [Int.tdiv_eq_ediv_of_nonneg (by omega)]; omega
  have w5 : IntKind.u16.wrap (d5 : Int) = (d5 : Int) := w16s (by rw [← hd5]; exact Nat.div_le_self _ _) hx
  have HF : Aside0 (∀ U V : World, Below U.heap.size U V → Calls Tryd.prog 22 #[.int .u16 (d5 : Int)] V fun e w' => e = .returned (rv p) ∧ Below U.heap.size U w') := ⟨fun U V h => hp ▸ Amount_c h (by omega)⟩
  have HO : Aside0 (∀ U V : World, Below U.heap.size U V → Calls Tryd.prog 23 #[rv p] V fun e w' => e = .returned (rv (-p)) ∧ Below U.heap.size U w') := ⟨fun U V h => rOpposite_c h⟩
  have HQ := Aside0.mk hq
  obtain ⟨np, hnp⟩ : ∃ r, -p = r := ⟨_, rfl⟩
  rw [hnp] at HO HQ
  have hr2 : r5 = 0 ∨ r5 = 1 := by omega
  clear hB hW hbW hq hr5 hd5 hp hnp
  go_enter Tryd.func8, Tryd.ntmps8
  go_upto_region 1 with (fail)
  rw [HE.out]
  go_upto_region 2 with (go_at_call 22; (with_reducible refine (HF.out _ _ (Below.refl _ _)).mono ?_); rintro e w5 ⟨rfl, hV⟩; replace HW := Aside0.mk (below_step HW.out hV); replace HR := Aside0.mk (HR.out.below hV); clear hV)
  obtain ⟨p5, hp5⟩ : ∃ x, w5.heap.size = x := ⟨_, rfl⟩
  obtain ⟨w6, hw6, HX, hV⟩ := box1 w5 (.bool (ngv p)) (.string (enc p.num.natAbs)) (.string (encD p.den)) 27
  rw [hw6]
  rw [hp5] at HX ⊢
  replace HW := Aside0.mk (below_step HW.out hV); replace HR := Aside0.mk (HR.out.below hV); clear hV
  clear hw6 hp5
  have kx := (HX.out); have kx0 := kx.c0; have kx1 := kx.c1; have kx2 := kx.c2; have fx0 := kx.f0; have fx1 := kx.f1; have fx2 := kx.f2; clear kx
  rcases hr2 with rfl | rfl
  · have hqp : q = p := by rw [← HQ.out]; rfl
    have kx := (HR.out); have kr0 := kx.c0; have kr1 := kx.c1; have kr2 := kx.c2; have fr0 := kx.f0; have fr1 := kx.f1; have fr2 := kx.f2; clear kx
    go_wp2
    clear kr0 kr1 kr2 fr0 fr1 fr2 kx0 kx1 kx2 fx0 fx1 fx2
    refine bodyPost_ret (results_bx rfl rfl (HR.out.set _ _ _)) rfl ?_
    exact ⟨by rw [hqp], below_set3 HW.out H0.out.size⟩
  · have hqp : q = np := by rw [← HQ.out]; rfl
    go_wp2_with (go_at_call 23; (with_reducible refine (HO.out _ _ (Below.refl _ _)).mono ?_); rintro e w7 ⟨rfl, hV⟩; replace HW := Aside0.mk (below_step HW.out hV); replace HR := Aside0.mk (HR.out.below hV); clear hV; have kx := (HR.out); have kr0 := kx.c0; have kr1 := kx.c1; have kr2 := kx.c2; have fr0 := kx.f0; have fr1 := kx.f1; have fr2 := kx.f2; clear kx)
    clear kr0 kr1 kr2 fr0 fr1 fr2 kx0 kx1 kx2 fx0 fx1 fx2
    refine bodyPost_ret (results_bx rfl rfl (HR.out.set _ _ _)) rfl ?_
    exact ⟨by rw [hqp], below_set3 HW.out H0.out.size⟩
end Go.Proofs.YtiamgjepcagohaaDoor.P
end
