/- ClRtx: lemmas of this claim, of 2 texts. -/
import Derived.Test.YtiamgjepcagohaaDoorClRv
import Derived.Outline
section
/- Package natural on numbers. -/
namespace Go.Proofs.YtiamgjepcagohaaDoor.P
open Go Go.RowKit Go.Proofs.YtiamgjepcagohaaDoorW.PrintWords Go.Proofs.YtiamgjepcagohaaDoorW.PrintLast Go.Proofs.YtiamgjepcagohaaDoorW.PrintMore Go.Proofs.YtiamgjepcagohaaDoor.Ari

/-- A slice (its address and capacity) that reads as the number x. -/
structure Nr (w : World) (A : Option Addr) (c x : Nat) : Prop where
  cap : nl x ≤ c
  cells : Kd.C (Kd.int .u32) w A (nl x) (dig x)
theorem Nr.below {w w' : World} {A : Option Addr} {c x : Nat} (h : Nr w A c x) (hb : Below w.heap.size w w') : Nr w' A c x := ⟨h.cap, Kd.C_below h.cells hb⟩
theorem Rd.nr {w : World} {v : Value} {x : Nat} (h : Rd w v (dig x)) : ∃ A c, v = .slice A (nl x) c ∧ Nr w A c x := by
  obtain ⟨A, c, e, h1, h2⟩ := h
  rw [length_dig] at e h1 h2
  exact ⟨A, c, e, h1, h2⟩
/-- The numbers that are spoken of: fewer than 2^30 bytes. -/
structure Sm (x : Nat) : Prop where
  out : nb x ≤ 1073741824
theorem Sm.nl {x : Nat} (h : Sm x) : Ari.nl x ≤ 268435456 := by
  have := nl_le_nb x
  have := h.out
  omega
theorem Sm.le {x y : Nat} (h : Sm x) (hy : y ≤ x) : Sm y := ⟨Nat.le_trans (nb_mono hy) h.out⟩
theorem Sm.size {x : Nat} (h : Sm x) : (enc x).size ≤ 1073741824 := by rw [size_enc]; exact h.out
section
variable {w : World} {x y : Nat} {A0 A1 : Option Addr} {c0 c1 : Nat}
theorem divide_n (hx : Nr w A0 c0 x) (hy : Nr w A1 c1 y) (hxs : Sm x) (hys : Sm y) (h0 : 0 < y) :
    Calls Tryd.prog 70 #[.slice A0 (nl x) c0, .slice A1 (nl y) c1] w fun e w' => ∃ A2 c2 A3 c3, e = .returned (.tuple #[.slice A2 (nl (x / y)) c2, .slice A3 (nl (x % y)) c3]) ∧ Nr w' A2 c2 (x / y) ∧ Nr w' A3 c3 (x % y) ∧ Below w.heap.size w w' := by
  have hxl := hxs.nl
  have hyl := hys.nl
  by_cases hlt : x < y
  · refine (natural_divide.lt x y A0 A1 c0 c1 w hx.cells hx.cap hy.cells hy.cap (by omega) (by omega) hlt).mono ?_
    rintro e w' ⟨rfl, hd⟩
    rw [Nat.div_eq_of_lt hlt, Nat.mod_eq_of_lt hlt, nl_zero]
    refine ⟨none, 0, A0, c0, rfl, ⟨by rw [nl_zero]; exact Nat.le_refl _, ?_⟩, hx.below hd.below, hd.below⟩
    rw [nl_zero, dig_zero]
    exact Kd.C_nil _ _
  · have fin : ∀ (e : Ending) (w' : World), (∃ v0 v1, e = .returned (.tuple #[v0, v1]) ∧ Rd w' v0 (dig (x / y)) ∧ Rd w' v1 (dig (x % y)) ∧ Below w.heap.size w w') → ∃ A2 c2 A3 c3, e = .returned (.tuple #[.slice A2 (nl (x / y)) c2, .slice A3 (nl (x % y)) c3]) ∧ Nr w' A2 c2 (x / y) ∧ Nr w' A3 c3 (x % y) ∧ Below w.heap.size w w' := by
      rintro e w' ⟨v0, v1, rfl, h0, h1, hb⟩
      obtain ⟨A2, c2, rfl, h2⟩ := h0.nr
      obtain ⟨A3, c3, rfl, h3⟩ := h1.nr
      exact ⟨A2, c2, A3, c3, rfl, h2, h3, hb⟩
    by_cases hB : y < 4294967296
    · have h1 := nl_one h0 hB
      have := natural_divide.one x y A0 A1 c0 c1 w hx.cells hx.cap (by rw [← h1]; exact hy.cells) (by rw [← h1]; exact hy.cap) (by omega) (by omega) h0 hB
      rw [← h1] at this
      exact this.mono fin
    · obtain ⟨n, hn⟩ : ∃ n, nl y = n + 2 := ⟨nl y - 2, by
        have : 1 < nl y := by
          have h := nl_lt y
          rcases Nat.lt_or_ge 1 (nl y) with h2 | h2
          · exact h2
          · exfalso
            have h3 : B ^ nl y ≤ B ^ 1 := Nat.pow_le_pow_right B0 h2
            rw [Nat.pow_one] at h3
            have h4 := Nat.lt_of_lt_of_le h h3
            unfold B at h4
            omega
        omega⟩
      obtain ⟨m, hm⟩ : ∃ m, nl x = n + 2 + m := ⟨nl x - (n + 2), by
        have := nl_mono (show y ≤ x by omega)
        omega⟩
      have := natural_divide.long x y n m A0 A1 c0 c1 w (by rw [← hm]; exact hx.cells) (by rw [← hm]; exact hx.cap) (by rw [← hn]; exact hy.cells) (by rw [← hn]; exact hy.cap) (by omega) (by omega) hn hm
      rw [← hm, ← hn] at this
      exact this.mono fin
end

/-! the exported functions, from a world w0 on -/
section
variable {w0 w : World} {x y : Nat}
theorem add_s (hB : Below w0.heap.size w0 w) (hx : Sm x) (hy : Sm y) :
    Calls Tryd.prog 46 #[.string (enc x), .string (enc y)] w fun e w' => e = .returned (.string (enc (x + y))) ∧ Below w0.heap.size w0 w' := by
  have h1 := hx.size
  have h2 := hy.size
  obtain ⟨k, hk⟩ := (add_ev (a := enc x) (b := enc y) (by omega) (by omega)).rounds
  rw [sv_enc, sv_enc] at hk
  exact (natural_Add.calls k _ _ _ w hk).mono fun e w' ⟨he, hb⟩ => ⟨he, below_step hB hb⟩
theorem mul_s (hB : Below w0.heap.size w0 w) (hx : Sm x) (hy : Sm y) :
    Calls Tryd.prog 27 #[.string (enc x), .string (enc y)] w fun e w' => e = .returned (.string (enc (x * y))) ∧ Below w0.heap.size w0 w' := by
  have h1 := hx.size
  have h2 := hy.size
  obtain ⟨k, hk⟩ := (multiply_ev (a := enc x) (b := enc y) (by omega) (by omega)).rounds
  rw [sv_enc, sv_enc] at hk
  exact (natural_Multiply.calls k _ _ _ w hk).mono fun e w' ⟨he, hb⟩ => ⟨he, below_step hB hb⟩
theorem sub_s (hB : Below w0.heap.size w0 w) (hx : Sm x) (hy : Sm y) :
    Calls Tryd.prog 47 #[.string (enc x), .string (enc y)] w fun e w' => e = .returned (.tuple #[.string (enc (if x < y then 0 else x - y)), .bool (decide (y ≤ x))]) ∧ Below w0.heap.size w0 w' := by
  have h1 := hx.size
  have h2 := hy.size
  obtain ⟨k, hk⟩ := (sub_ev (a := enc x) (b := enc y) (by omega) (by omega)).rounds
  rw [sv_enc, sv_enc] at hk
  by_cases h : x < y
  · rw [if_pos h] at hk
    rw [if_pos h, decide_eq_false (by omega), enc_zero]
    exact (natural_Subtract.calls k _ _ _ _ w hk).mono fun e w' ⟨he, hb⟩ => ⟨he, below_step hB hb⟩
  · rw [if_neg h] at hk
    rw [if_neg h, decide_eq_true (by omega)]
    exact (natural_Subtract.calls k _ _ _ _ w hk).mono fun e w' ⟨he, hb⟩ => ⟨he, below_step hB hb⟩
theorem fromUint_s {u : Nat} (hB : Below w0.heap.size w0 w) (hu : u < 18446744073709551616) :
    Calls Tryd.prog 38 #[.int .u64 (u : Int)] w fun e w' => e = .returned (.string (enc u)) ∧ Below w0.heap.size w0 w' := by
  obtain ⟨k, hk⟩ := (fromUint_ev hu).rounds
  exact (natural_FromUint.calls k _ _ w hk).mono fun e w' ⟨he, hb⟩ => ⟨he, below_step hB hb⟩
theorem normA_s {s : ByteArray} (hB : Below w0.heap.size w0 w) (hs : s.size ≤ 1073741824) :
    Calls Tryd.prog 49 #[.string s] w fun e w' => e = .returned (.string (enc (sv s))) ∧ Below w0.heap.size w0 w' := by
  obtain ⟨k, hk⟩ := (normS_ev s (by omega)).rounds
  exact (natural_Normalize.calls k _ _ w hk).mono fun e w' ⟨he, hd⟩ => ⟨he, below_step hB hd.below⟩
theorem norm_s (hB : Below w0.heap.size w0 w) (hx : Sm x) :
    Calls Tryd.prog 49 #[.string (enc x)] w fun e w' => e = .returned (.string (enc x)) ∧ Below w0.heap.size w0 w' := by
  have := normA_s (s := enc x) hB hx.size
  rwa [sv_enc] at this
theorem parse_n (hB : Below w0.heap.size w0 w) (hx : Sm x) :
    Calls Tryd.prog 52 #[.string (enc x)] w fun e w' => ∃ A c, e = .returned (.slice A (nl x) c) ∧ Nr w' A c x ∧ Below w.heap.size w w' ∧ Below w0.heap.size w0 w' := by
  refine (parse_calls (w := w) (enc x) (by have := hx.size; omega)).mono ?_
  rintro e w' ⟨v, rfl, hR, hb⟩
  rw [sv_enc] at hR
  obtain ⟨A, c, rfl, hN⟩ := hR.nr
  exact ⟨A, c, rfl, hN, hb, below_step hB hb⟩
theorem text_n {A : Option Addr} {c : Nat} (hN : Nr w A c x) (hB : Below w0.heap.size w0 w) (hx : Sm x) :
    Calls Tryd.prog 53 #[.slice A (nl x) c] w fun e w' => e = .returned (.string (enc x)) ∧ Below w.heap.size w w' ∧ Below w0.heap.size w0 w' :=
  (textR_calls hN.cells hN.cap (by have := hx.nl; omega)).mono fun e w' ⟨he, hb⟩ => ⟨he, hb, below_step hB hb⟩
theorem divide_nB {A0 A1 : Option Addr} {c0 c1 : Nat} (hx : Nr w A0 c0 x) (hy : Nr w A1 c1 y) (hB : Below w0.heap.size w0 w) (hxs : Sm x) (hys : Sm y) (h0 : 0 < y) :
    Calls Tryd.prog 70 #[.slice A0 (nl x) c0, .slice A1 (nl y) c1] w fun e w' => ∃ A2 c2 A3 c3, e = .returned (.tuple #[.slice A2 (nl (x / y)) c2, .slice A3 (nl (x % y)) c3]) ∧ Nr w' A2 c2 (x / y) ∧ Nr w' A3 c3 (x % y) ∧ Below w.heap.size w w' ∧ Below w0.heap.size w0 w' :=
  (divide_n hx hy hxs hys h0).mono fun e w' ⟨A2, c2, A3, c3, he, h2, h3, hb⟩ => ⟨A2, c2, A3, c3, he, h2, h3, hb, below_step hB hb⟩
end

set_option maxHeartbeats 2000000 in
set_option maxRecDepth 1000000 in
theorem div_s {w0 w : World} {x y : Nat} (hB : Below w0.heap.size w0 w) (hx : Sm x) (hy : Sm y) (h0 : 0 < y) :
    Calls Tryd.prog 51 #[.string (enc x), .string (enc y)] w fun e w' => e = .returned (.tuple #[.string (enc (x / y)), .string (enc (x % y)), .bool true]) ∧ Below w0.heap.size w0 w' := by
  have H0 := Aside0.mk hB
  have hq : Sm (x / y) := hx.le (Nat.div_le_self _ _)
  have hr : Sm (x % y) := hx.le (Nat.mod_le _ _)
  have hy0 : 0 < nl y := by
    rcases Nat.eq_zero_or_pos (nl y) with h | h
    · exfalso
      have := nl_lt y
      rw [h, Nat.pow_zero] at this
      omega
    · exact h
  have hyl := hy.nl
  have hne : decide ((nl y : Int) = 0) = false := decide_eq_false (by omega)
  have HY := Aside0.mk (parse_n (w0 := w0) (w := w) hB hy)
  clear hB
  go_enter Tryd.func51, Tryd.ntmps51
  go_upto_region 4 with (go_at_call 52; (with_reducible refine HY.out.mono ?_); rintro e w1 ⟨A1, c1, rfl, hN1, hb1, hB1⟩; have HB1 := Aside0.mk hB1; have HN1 := Aside0.mk hN1; clear hb1 hB1 hN1)
  have HX := Aside0.mk (parse_n (w0 := w0) (w := w1) HB1.out hx)
  clear HY
  go_wp2_with (first | (go_at_call 52; (with_reducible refine HX.out.mono ?_); rintro e w2 ⟨A2, c2, rfl, hN2, hb2, hB2⟩; have HB2 := Aside0.mk hB2; have HN2 := Aside0.mk hN2; have HN12 := Aside0.mk (HN1.out.below hb2); clear hb2 hB2 hN2) | (go_at_call 70; (with_reducible refine (divide_nB HN2.out HN12.out HB2.out hx hy h0).mono ?_); rintro e w3 ⟨A3, c3, A4, c4, rfl, hN3, hN4, hb3, hB3⟩; have HB3 := Aside0.mk hB3; have HN3 := Aside0.mk hN3; have HN4 := Aside0.mk hN4; clear hb3 hB3 hN3 hN4) | (go_at_call 53; (first | ((with_reducible refine (text_n HN3.out HB3.out hq).mono ?_); rintro e w4 ⟨rfl, hb4, hB4⟩; have HB4 := Aside0.mk hB4; have HN5 := Aside0.mk (HN4.out.below hb4); clear hb4 hB4) | ((with_reducible refine (text_n HN5.out HB4.out hr).mono ?_); rintro e w5 ⟨rfl, hb5, hB5⟩; have HB5 := Aside0.mk hB5; clear hb5 hB5))))
  go_ret3
  exact ⟨rfl, HB5.out⟩

def valAt (w : World) (ad : Addr) : Nat → Nat
  | 0 => 0
  | L + 1 => valAt w ad L + (intOf ((w.cell? (ad.add L)).getD undef)).toNat * B ^ L
def numOf (w : World) : Value → Nat
  | .slice (some ad) L _ => valAt w ad L
  | _ => 0
theorem valAt_eq {w : World} {ad : Addr} {x : Nat} : ∀ L, (∀ j, j < L → w.cell? (ad.add j) = some (.int .u32 ((x / B ^ j % B : Nat) : Int))) → valAt w ad L = x % B ^ L
  | 0, _ => by rw [Nat.pow_zero, Nat.mod_one]; rfl
  | L + 1, h => by
    rw [valAt, valAt_eq L (fun j hj => h j (by omega)), h L (by omega), mod_succ]
    simp only [Option.getD_some, intOf, Int.toNat_natCast]
theorem numOf_nr {w : World} {A : Option Addr} {c x : Nat} (h : Nr w A c x) : numOf w (.slice A (nl x) c) = x := by
  have hx := nl_lt x
  rcases Nat.eq_zero_or_pos (nl x) with h0 | h0
  · rw [h0, Nat.pow_zero] at hx
    obtain rfl : x = 0 := by omega
    rw [h0]
    cases A <;> rfl
  · obtain ⟨ad, rfl, _⟩ := Kd.at_int h.cells 0 (by omega) (by omega)
    unfold numOf
    simp only []
    rw [valAt_eq (x := x) (nl x), Nat.mod_eq_of_lt hx]
    intro j hj
    obtain ⟨ad', e, hc⟩ := Kd.at_int h.cells (j : Int) (by omega) (by omega)
    cases e
    rw [rd_dig hj, Int.toNat_natCast] at hc
    exact hc
set_option maxHeartbeats 2000000 in
set_option maxRecDepth 1000000 in
theorem gcd_s {w0 w : World} {x y : Nat} (hB : Below w0.heap.size w0 w) (hx : Sm x) (hy : Sm y) :
    Calls Tryd.prog 50 #[.string (enc x), .string (enc y)] w fun e w' => e = .returned (.string (enc (Nat.gcd x y))) ∧ Below w0.heap.size w0 w' := by
  have H0 := Aside0.mk hB
  have HX := Aside0.mk (parse_n (w0 := w0) (w := w) hB hx)
  clear hB
  go_enter Tryd.func50, Tryd.ntmps50
  go_wp2_with (go_at_call 52; (first | ((with_reducible refine HX.out.mono ?_); rintro e w1 ⟨A1, c1, rfl, hN1, hb1, hB1⟩; have HB1 := Aside0.mk hB1; have HN1 := Aside0.mk hN1; clear hb1 hB1 hN1) | ((with_reducible refine (parse_n HB1.out hy).mono ?_); rintro e w2 ⟨A2, c2, rfl, hN2, hb2, hB2⟩; have HB2 := Aside0.mk hB2; have HN2 := Aside0.mk hN2; have HN12 := Aside0.mk (HN1.out.below hb2); clear hb2 hB2 hN2)))
  go_loopw [5, 6] (fun v5 v6 wr => ∃ (a b : Nat) (P Q : Option Addr) (p q : Nat), v5 = .slice P (nl a) p ∧ v6 = .slice Q (nl b) q ∧ Aside0 (Nr wr P p a) ∧ Aside0 (Nr wr Q q b) ∧ Aside0 (Sm a) ∧ Aside0 (Sm b) ∧ Aside0 (Nat.gcd a b = Nat.gcd x y) ∧ Aside0 (Below w0.heap.size w0 wr)) (fun _ v6 wr => numOf wr v6)
  case atStart => exact ⟨x, y, A1, A2, c1, c2, rfl, rfl, HN12, HN2, ⟨hx⟩, ⟨hy⟩, ⟨rfl⟩, HB2⟩
  case round =>
    clear HN12 HN2 HN1 HX
    obtain ⟨a, b, P, Q, p, q, rfl, rfl, HP, HQ, Ha, Hb, Hg, HB⟩ := hrel
    rcases Nat.eq_zero_or_pos b with h0 | h0
    · obtain rfl := h0
      have hz : nl 0 = 0 := nl_zero
      have hg : a = Nat.gcd x y := by rw [← Hg.out, Nat.gcd_zero_right]
      have HG := Aside0.mk hg
      rw [hz]
      clear hg hz
      go_wp2_with (go_at_call 53; (with_reducible refine (text_n HP.out HB.out Ha.out).mono ?_); rintro e w4 ⟨rfl, hb4, hB4⟩; have HB4 := Aside0.mk hB4; clear hb4 hB4)
      go_ret
      exact ⟨by rw [← HG.out]; rfl, HB4.out⟩
    · have hpos : 0 < nl b := by
        rcases Nat.eq_zero_or_pos (nl b) with h | h
        · exfalso
          have := nl_lt b
          rw [h, Nat.pow_zero] at this
          omega
        · exact h
      have hd : decide (0 < (nl b : Int)) = true := decide_eq_true (by omega)
      go_wp2_with (go_at_call 70; (with_reducible refine (divide_nB HP.out HQ.out HB.out Ha.out Hb.out h0).mono ?_); rintro e w3 ⟨A3, c3, A4, c4, rfl, hN3, hN4, hb3, hB3⟩; have HB3 := Aside0.mk hB3; have HN4 := Aside0.mk hN4; have HQ3 := Aside0.mk (HQ.out.below hb3); clear hb3 hB3 hN3 hN4)
      go_roundw
      case rel => exact ⟨b, a % b, Q, A4, q, c4, rfl, rfl, HQ3, HN4, Hb, ⟨Hb.out.le (Nat.le_of_lt (Nat.mod_lt _ h0))⟩, ⟨by rw [Nat.gcd_comm, ← Nat.gcd_rec, Nat.gcd_comm]; exact Hg.out⟩, HB3⟩
      case measure =>
        rw [numOf_nr HN4.out, numOf_nr HQ.out]
        exact Nat.mod_lt _ h0
end Go.Proofs.YtiamgjepcagohaaDoor.P
end
section
/- The reference's strip and text, for what can be read. -/
namespace Go.Proofs.YtiamgjepcagohaaDoor.P
open Go Go.RowKit Go.Proofs.YtiamgjepcagohaaDoorW.PrintWords Go.Proofs.YtiamgjepcagohaaDoorW.PrintLast Go.Proofs.YtiamgjepcagohaaDoorW.PrintMore Go.Proofs.YtiamgjepcagohaaDoor.Ari

theorem Rd.some_ {w : World} {v : Value} {l : List Int} (h : Rd w v l) (h0 : 0 < l.length) : ∃ (ad : Addr) (c : Nat), v = .slice (some ad) l.length c ∧ l.length ≤ c ∧ Kd.C (Kd.int .u32) w (some ad) l.length l := by
  obtain ⟨A, c, rfl, h1, h2⟩ := h
  obtain ⟨ad, rfl, _⟩ := h2.2.2 h0
  exact ⟨ad, c, rfl, h1, h2⟩
theorem cell_of {w : World} {ad : Addr} {l : List Int} (h : Kd.C (Kd.int .u32) w (some ad) l.length l) {j : Nat} (hj : j < l.length) : w.cell? (ad.add j) = some (.int .u32 (rd l (j : Int))) := by
  obtain ⟨ad', e, hc⟩ := Kd.at_int h (j : Int) (by omega) (by omega)
  injection e with e
  subst e
  rw [Int.toNat_natCast] at hc
  exact hc
theorem nl_le_of {L n : Nat} (hn : n < B ^ L) : nl n ≤ L := by
  rcases Nat.lt_or_ge L (nl n) with h | h
  · exfalso
    have h0 : n ≠ 0 := by intro e; rw [e, nl_zero] at h; omega
    have := nl_ge h0
    have h2 : B ^ L ≤ B ^ (nl n - 1) := Nat.pow_le_pow_right (by decide) (by omega)
    omega
  · exact h
theorem Rd.take {w : World} {ad : Addr} {c L n : Nat} (hc : L ≤ c) (hC : Kd.C (Kd.int .u32) w (some ad) L (digN L n)) (hn : n < B ^ L) : Rd w (.slice (some ad) (nl n) c) (dig n) := by
  have h1 := nl_le_of hn
  have h2 := Kd.C_take (xs := digN L n) (m := nl n) (by rw [length_digN]; exact hC) (by rw [length_digN]; exact h1)
  rw [digN_take h1] at h2
  exact ⟨some ad, c, by rw [length_dig], by rw [length_dig]; omega, h2⟩

set_option maxHeartbeats 2000000 in
set_option maxRecDepth 1000000 in
theorem strip_c {w : World} {v : Value} {L n : Nat} (hR : Rd w v (digN L n)) (h0 : 0 < L) (hL : L ≤ 70368744177664) (hn : n < B ^ L) :
    Calls Tryd.prog 97 #[v] w fun e w' => ∃ ad c, e = .returned (.slice (some ad) (nl n) c) ∧ nl n ≤ c ∧ Rd w' (.slice (some ad) (nl n) c) (dig n) ∧ w' = w := by
  obtain ⟨ad, c, rfl, hc, hC⟩ := hR.some_ (by rw [length_digN]; exact h0)
  rw [length_digN] at hc hC ⊢
  have HC := Aside0.mk hC
  have HN := Aside0.mk hn
  have HNL := Aside0.mk (nl_le_of hn)
  obtain ⟨N, hN⟩ : ∃ N, nl n = N := ⟨_, rfl⟩
  have HNN := Aside0.mk hN
  rw [hN]
  clear hR hC hn hN
  go_enter Tryd.func97, Tryd.ntmps97
  go_wp2
  go_loopw [3] (fun v3 wr => ∃ j : Nat, j ≤ L ∧ v3 = .int .i64 j ∧ Aside0 (n < B ^ j) ∧ wr = w) (fun v3 _ => (intOf v3).toNat)
  case atStart => exact ⟨L, Nat.le_refl _, rfl, HN, rfl⟩
  case round =>
    obtain ⟨j, hj, rfl, HJ, rfl⟩ := hrel
    rcases Nat.eq_zero_or_pos j with e0 | e0
    · subst e0
      have hz : n = 0 := by have := HJ.out; simpa using this
      have hNz : N = 0 := by rw [← HNN.out, hz, nl_zero]
      subst hNz
      go_wp2
      go_ret
      refine ⟨ad, c, rfl, by omega, ?_, rfl⟩
      have := Rd.take hc HC.out HN.out
      rwa [HNN.out] at this
    · obtain ⟨i, rfl⟩ : ∃ i, j = i + 1 := ⟨j - 1, by omega⟩
      have hcl := cell_of (l := digN L n) (by rw [length_digN]; exact HC.out) (j := i) (by rw [length_digN]; omega)
      rw [rd_digN (by omega)] at hcl
      have hw : IntKind.i64.wrap (((i + 1 : Nat) : Int) - 1) = (i : Int) := by rw [i64_w, i64n (by omega) (by omega)]; omega
      have hp : decide ((0 : Int) < ((i + 1 : Nat) : Int)) = true := decide_eq_true (by omega)
      obtain ⟨x, hx⟩ : ∃ x, n / B ^ i % B = x := ⟨_, rfl⟩
      rw [hx] at hcl
      have HX := Aside0.mk hx
      clear hx
      have hi1 : (0 : Int) ≤ (i : Int) := by omega
      have hi2 : (i : Int) < (L : Int) := by omega
      by_cases hz : x = 0
      · subst hz
        go_wp2
        go_roundw
        case rel =>
          refine ⟨i, by omega, by go_num, ⟨?_⟩, by first | rfl | trivial⟩
          have h1 := HJ.out
          have h2 := HX.out
          have h3 : n / B ^ i < B := by rw [Nat.div_lt_iff_lt_mul (B_pos _), Nat.mul_comm, ← Nat.pow_succ]; exact h1
          rw [Nat.mod_eq_of_lt h3] at h2
          exact lt_of_hi h2
        case measure => simp [intOf]
      · have hz2 : ((x : Int) == 0) = false := by simp; omega
        have hNe : N = i + 1 := by
          rw [← HNN.out]
          have h1 := HX.out
          refine nl_eq HJ.out ?_
          rcases Nat.lt_or_ge n (B ^ i) with h | h
          · exfalso; rw [Nat.div_eq_of_lt h] at h1; simp at h1; omega
          · exact h
        subst hNe
        have hc1 : ((i + 1 : Nat) : Int) ≤ (c : Int) := by omega
        have hc0 : (0 : Int) ≤ ((i + 1 : Nat) : Int) := by omega
        go_wp2
        go_ret
        refine ⟨ad, c, ?_, by omega, ?_, rfl⟩
        · rfl
        · have := Rd.take hc HC.out HN.out
          rwa [HNN.out] at this

/-! text -/
theorem byN_app (W m : Nat) : byN (W + 1) m (W + 1) = byN W (m / 256) W ++ [((m % 256 : Nat) : Int)] := by
  unfold byN
  rw [List.range_succ, List.map_append]
  congr 1
  · refine List.map_congr_left (fun j hj => ?_)
    rw [List.mem_range] at hj
    rw [if_pos (by omega), if_pos (by omega), show W + 1 - 1 - j = (W - 1 - j) + 1 by omega, Nat.pow_succ', ← Nat.div_div_eq_div_mul]
  · simp
theorem byN_four (W m : Nat) : byN (W + 4) m (W + 4) = byN W (m / 4294967296) W ++ [((m / 16777216 % 256 : Nat) : Int), ((m / 65536 % 256 : Nat) : Int), ((m / 256 % 256 : Nat) : Int), ((m % 256 : Nat) : Int)] := by
  rw [show W + 4 = (W + 3) + 1 from rfl, byN_app, show W + 3 = (W + 2) + 1 from rfl, byN_app, show W + 2 = (W + 1) + 1 from rfl, byN_app, byN_app]
  simp only [Nat.div_div_eq_div_mul, List.append_assoc, List.cons_append, List.nil_append]
theorem append_four {P : Program} {ops : Array Oper} {rest : List Oper} {o : Oper} {a : Act} {Q : Exit → Act → World → Prop} {w0 W : World} (base : Nat) (hgd : o.guard = none) (s x : Operand) (t e : TypeId) (z : Value) (bytes : Nat)
    (ho : o.op = .call { callee := .builtin .append, args := #[s, x], argTypes := #[t, t] })
    (ht : P.underlying t = some (.slice e)) (hinfo : (P.info? e).map (fun i => (i.zero, i.size, i.bytes)) = some (some z, 1, bytes)) (hz : z.cells.size = 1) (hb0 : 0 < bytes)
    (v : Value) (n : Nat) (xs : List Value) (y0 y1 y2 y3 : Value) (hs : a.eval s = v) (hx : a.eval x = .slice (some ⟨W.heap.size, 0, none⟩) 4 4) (h1 : ∀ u ∈ [y0, y1, y2, y3], u.oneCell' = true)
    (HO : W.ownsRow base e 1 v n xs) (HB : Below base w0 W) (hbase : base ≤ W.heap.size) (hl : (n + 4) * bytes ≤ 140737488355328)
    (h : ∀ v1 w1, w1.ownsRow base e 1 v1 (n + 4) (xs ++ [y0, y1, y2, y3]) → Below base w0 w1 → wpList P ops Q rest (a.put o.dst v1) w1) :
    wpList P ops Q (o :: rest) a (W.alloc (.cells #[y0, y1, y2, y3] e)) := by
  obtain ⟨i0, hi, hzz⟩ := Option.map_eq_some_iff.1 hinfo
  simp only [Prod.mk.injEq] at hzz
  obtain ⟨hz0, hz1, hz2⟩ := hzz
  have hlen : n + 4 ≤ 140737488355328 := Nat.le_trans (Nat.le_mul_of_pos_right _ hb0) hl
  refine wpList_append_own_at (W.alloc (.cells #[y0, y1, y2, y3] e)) hgd s x t ho base e i0 z 1 bytes ht hi hz0 hz1 hz2 hz (by omega) v n xs hs (HO.alloc _) ⟨W.heap.size, 0, none⟩ 4 4 [y0, y1, y2, y3] hx rfl
    (World.news_of_block (cs := #[y0, y1, y2, y3]) (t := e) (fr := (0, 0)) (heap_alloc_new W _)) h1 (by simp only [maxLen]; omega) hl (by simp; omega) ?_
  intro v1 w1 hown hg _ _
  exact h v1 w1 hown ((HB.alloc hbase _).grown hg (by simp; omega) (own_base HO))
theorem infoU8 : (Tryd.prog.info? 5).map (fun i => (i.zero, i.size, i.bytes)) = some (some (.int .u8 0), 1, 1) := by kernel_rfl
theorem own_slice1 {W : World} {b e n : Nat} {v : Value} {xs : List Value} (h : W.ownsRow b e 1 v n xs) : ∃ A c, v = .slice A n c := by
  rcases h.2 with ⟨rfl, rfl⟩ | ⟨g, cap, cur, rfl, _⟩
  · exact ⟨none, 0, rfl⟩
  · exact ⟨_, _, rfl⟩
theorem made_empty (W : World) (m : Nat) (hm : m ≤ 281474976710656) (t : TypeId) : (W.alloc (.cells (madeCells #[.int .u8 0] m) t)).ownsRow W.heap.size t 1 (.slice (some ⟨W.heap.size, 0, none⟩) 0 m) 0 [] := by
  refine ⟨rfl, .inr ⟨W.heap.size, m, _, rfl, Nat.le_refl _, heap_alloc_new W _, Nat.zero_le _, by simp only [maxLen]; omega, ?_, by simp⟩⟩
  simp [madeCells]
theorem make_bytes0 (m : Nat) (hm : m ≤ 281474976710656) (w : World) : (Instr.makeSlice 102 (.int .i64 0) (.int .i64 (m : Int))).run Tryd.prog w =
    .ok (.slice (some ⟨w.heap.size, 0, none⟩) 0 m) (w.alloc (.cells (madeCells #[.int .u8 0] m) 5)) := by
  obtain ⟨i, hi, hzz⟩ := Option.map_eq_some_iff.1 infoU8
  simp only [Prod.mk.injEq] at hzz
  obtain ⟨hz, hs, hb⟩ := hzz
  have hr := run_make (P := Tryd.prog) w 102 5 i _ Tryd.underlying102 hi hz .i64 .i64 0 m (by omega) (by omega) (by rw [hb]; omega) (by omega)
  simp only [Int.toNat_natCast, hs, Nat.mul_one] at hr
  exact hr

theorem by_val {x n i : Nat} (hx : n / B ^ i % B = x) : x / 16777216 % 256 = n / B ^ i / 16777216 % 256 ∧ x / 65536 % 256 = n / B ^ i / 65536 % 256 ∧ x / 256 % 256 = n / B ^ i / 256 % 256 ∧ x % 256 = n / B ^ i % 256 := by
  generalize n / B ^ i = m at *
  unfold B at hx
  omega
set_option maxHeartbeats 2000000 in
set_option maxRecDepth 1000000 in
theorem text_c {w : World} {v : Value} {L n : Nat} (hR : Rd w v (digN L n)) (h0 : 0 < L) (hL : L ≤ 17592186044416) (hn : n < B ^ L) :
    Calls Tryd.prog 89 #[v] w fun e w' => e = .returned (.string (enc n)) ∧ Below w.heap.size w w' := by
  have HS := Aside0.mk (strip_c hR h0 (by omega) hn)
  have hNL := nl_le_of hn
  have HB4 : Aside0 (n < 256 ^ (4 * nl n)) := ⟨by rw [← B_eq]; exact nl_lt n⟩
  obtain ⟨N, hN⟩ : ∃ N, nl n = N := ⟨_, rfl⟩
  have HNN := Aside0.mk hN
  rw [hN] at HS hNL HB4
  have hmk : ∀ W : World, (Instr.makeSlice 102 (.int .i64 0) (.int .i64 (4 * (N : Int)))).run Tryd.prog W = .ok (.slice (some ⟨W.heap.size, 0, none⟩) 0 (4 * N)) (W.alloc (.cells (madeCells #[.int .u8 0] (4 * N)) 5)) := fun W => by
    have := make_bytes0 (4 * N) (by omega) W
    simpa using this
  have hw4 : IntKind.i64.wrap (4 * (N : Int)) = 4 * (N : Int) := by rw [i64_w, i64n (by omega) (by omega)]
  have HNB : Aside0 (N ≤ 17592186044416) := ⟨by omega⟩
  clear hR h0 hL hn hNL hN
  go_enter Tryd.func89, Tryd.ntmps89
  go_upto_region 2 with (go_at_call 97; (with_reducible refine HS.out.mono ?_); rintro e w1 ⟨ad, c, rfl, hc, hR, rfl⟩; have HR := Aside0.mk hR; clear hR)
  go_upto_region 3 with (fail)
  have hV := below_alloc (Below.refl w1.heap.size w1) (.cells (madeCells #[.int .u8 0] (4 * N)) 5)
  have hO := made_empty w1 (4 * N) (by have := HNB.out; omega) 5
  obtain ⟨w2, hw2⟩ : ∃ x, w1.alloc (.cells (madeCells #[.int .u8 0] (4 * N)) 5) = x := ⟨_, rfl⟩
  rw [hw2] at hV hO ⊢
  have HO : Aside0 (w2.ownsRow w1.heap.size 5 1 (.slice (some ⟨w1.heap.size, 0, none⟩) 0 (4 * N)) (4 * (N - N)) (nums .u8 (byN (4 * (N - N)) (n / B ^ N) (4 * (N - N))))) := ⟨by rw [Nat.sub_self]; exact hO⟩
  have HB := Aside0.mk hV
  have HC : Aside0 (Kd.C (Kd.int .u32) w1 (some ad) N (dig n)) := ⟨by
    obtain ⟨A, c', e, h1, h2⟩ := HR.out
    rw [length_dig, HNN.out] at e h1 h2
    injection e with e1 e2 e3
    rw [e1]
    exact h2⟩
  clear hw2 hO hV hmk hw4
  go_wp2
  go_loopw [3, 4] (fun v3 v4 wr => ∃ (j : Nat) (t : Int), j ≤ N ∧ v4 = .int .i64 t ∧ Aside0 (t = (j : Int) - 1) ∧ Aside0 (wr.ownsRow w1.heap.size 5 1 v3 (4 * (N - j)) (nums .u8 (byN (4 * (N - j)) (n / B ^ j) (4 * (N - j))))) ∧ Aside0 (Below w1.heap.size w1 wr)) (fun _ v4 _ => (intOf v4 + 1).toNat)
  case atStart => exact ⟨N, _, Nat.le_refl _, rfl, ⟨i64n (by omega) (by have := HNB.out; omega)⟩, HO, HB⟩
  case round =>
    clear HO HB
    obtain ⟨j, t, hj, rfl, Ht, HO, HB⟩ := hrel
    rcases Nat.eq_zero_or_pos j with e0 | e0
    · subst e0
      have ht : t = -1 := by have := Ht.out; omega
      subst ht
      rw [Nat.sub_zero] at HO
      obtain ⟨A3, c3, e3⟩ := own_slice1 HO.out
      subst e3
      have hcv : (convert 102 9 (.slice A3 (4 * N) c3)).run Tryd.prog wr = .ok (.string (sN (4 * N) n)) wr := by
        have := own_string (src := 102) (dst := 9) (e := 5) Tryd.underlying102 Tryd.underlying5 Tryd.underlying9 HO.out
        rw [Nat.pow_zero, Nat.div_one, byN_full] at this
        exact this
      have HNorm : Aside0 (Calls Tryd.prog 94 #[.string (sN (4 * N) n)] wr fun e w' => e = .returned (.string (enc n)) ∧ Drawn0 wr w') := ⟨by
        have := rnorm_c (w := wr) (sN (4 * N) n) (by rw [size_sN]; have := HNB.out; omega)
        rwa [sv_sN HB4.out] at this⟩
      go_wp2_with (go_at_call 94; (with_reducible refine HNorm.out.mono ?_); rintro e w5 ⟨rfl, ⟨m5, rfl⟩⟩)
      go_ret
      exact ⟨rfl, below_step HB.out (Drawn0.below ⟨⟨_, rfl⟩⟩)⟩
    · obtain ⟨i, rfl⟩ : ∃ i, j = i + 1 := ⟨j - 1, by omega⟩
      have ht : t = (i : Int) := by have := Ht.out; omega
      subst ht
      have hcl := cell_of (l := dig n) (by rw [length_dig, HNN.out]; exact Kd.C_below HC.out HB.out) (j := i) (by rw [length_dig, HNN.out]; omega)
      rw [rd_dig (by rw [HNN.out]; omega)] at hcl
      obtain ⟨x, hx⟩ : ∃ x, n / B ^ i % B = x := ⟨_, rfl⟩
      rw [hx] at hcl
      have HX := Aside0.mk hx
      clear hx
      have hi1 : (0 : Int) ≤ (i : Int) := by omega
      have hi2 : (i : Int) < (N : Int) := by omega
      have hw1 : IntKind.i64.wrap ((i : Int) - 1) = (i : Int) - 1 := by rw [i64_w, i64n (by omega) (by have := HNB.out; omega)]
      have HBB := Aside0.mk HB.out.size
      have HY : Aside0 (nums .u8 (byN (4 * (N - (i + 1))) (n / B ^ (i + 1)) (4 * (N - (i + 1)))) ++ [.int .u8 ((x : Int) / 16777216 % 256), .int .u8 ((x : Int) / 65536 % 256), .int .u8 ((x : Int) / 256 % 256), .int .u8 ((x : Int) % 256)] = nums .u8 (byN (4 * (N - i)) (n / B ^ i) (4 * (N - i))) ∧ 4 * (N - (i + 1)) + 4 = 4 * (N - i)) := ⟨by
        have e1 : 4 * (N - i) = 4 * (N - (i + 1)) + 4 := by omega
        have e2 : n / B ^ i / 4294967296 = n / B ^ (i + 1) := by rw [Nat.div_div_eq_div_mul, Nat.pow_succ]; rfl
        obtain ⟨b1, b2, b3, b4⟩ := by_val HX.out
        rw [e1, byN_four, e2, nums_append]
        refine ⟨?_, rfl⟩
        congr 1
        rw [← b1, ← b2, ← b3, ← b4]
        simp [nums]⟩
      have HL : Aside0 ((4 * (N - (i + 1)) + 4) * 1 ≤ 140737488355328) := ⟨by have := HNB.out; omega⟩
      obtain ⟨A3, c3, e3⟩ := own_slice1 HO.out
      subst e3
      have H1 : Aside0 (∀ u ∈ [Value.int .u8 ((x : Int) / 16777216 % 256), .int .u8 ((x : Int) / 65536 % 256), .int .u8 ((x : Int) / 256 % 256), .int .u8 ((x : Int) % 256)], u.oneCell' = true) := ⟨fun u hu => by
        simp only [List.mem_cons, List.not_mem_nil, or_false] at hu
        rcases hu with rfl | rfl | rfl | rfl <;> rfl⟩
      go_wp2_with (at_builtin; refine append_four w1.heap.size rfl (.tmp 23) (.tmp 35) 102 5 (.int .u8 0) 1 rfl Tryd.underlying102 infoU8 rfl (by decide) (.slice A3 (4 * (N - (i + 1))) c3) (4 * (N - (i + 1))) _ _ _ _ _ rfl rfl H1.out HO.out HB.out HBB.out HL.out ?_; intro v1 w6 ho1 hb1; rw [HY.out.1, HY.out.2] at ho1; have HO6 := Aside0.mk ho1; have HB6 := Aside0.mk hb1; clear ho1 hb1)
      go_roundw
      case rel =>
        exact ⟨i, _, by omega, rfl, ⟨by first | rfl | exact i64n (by omega) (by have := HNB.out; omega)⟩, HO6, HB6⟩
      case measure => simp [intOf]
end Go.Proofs.YtiamgjepcagohaaDoor.P
end
