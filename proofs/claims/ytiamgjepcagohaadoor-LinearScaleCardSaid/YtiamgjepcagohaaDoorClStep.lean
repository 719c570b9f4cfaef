/- ClStep: lemmas of this claim, of 3 texts. -/
import Derived.Test.YtiamgjepcagohaaDoorClNat
import Derived.Test.YtiamgjepcagohaaDoorProg
import Derived.WalkKit
import Derived.Below
import Derived.Test.YtiamgjepcagohaaDoorClWWords
import Derived.Test.YtiamgjepcagohaaDoorClWMore
import Derived.Test.YtiamgjepcagohaaDoorClPx
import Derived.Test.YtiamgjepcagohaaDoorClKnuth
import Derived.Lib.Hide
section
/- What the printed functions of the reference on numbers compute: plain laws. -/
namespace Go.Proofs.YtiamgjepcagohaaDoor.P
open Go Go.RowKit Go.Proofs.YtiamgjepcagohaaDoorW.PrintWords Go.Proofs.YtiamgjepcagohaaDoorW.PrintLast Go.Proofs.YtiamgjepcagohaaDoorW.PrintMore Go.Proofs.YtiamgjepcagohaaDoor.Ari

/-! strip -/
theorem strip_l (L n : Nat) (hL : L ≤ 70368744177664) : ∀ j, j ≤ L → n < B ^ j → Ev (fun k => insolvencyref1_strip.l0 k (digN L n) (j : Int)) (dig n)
  | 0, _, hn => by
    have h0 : n = 0 := by simpa using hn
    subst h0
    refine Ev.step (f := fun _ => some (dig 0)) (fun k => ?_) (Ev.now _)
    rw [insolvencyref1_strip.l0, if_neg (by omega), if_pos (by omega), if_pos (by rw [length_digN]; omega), dig_zero]
    rfl
  | j + 1, hj, hn => by
    have hw : wrap64 (((j + 1 : Nat) : Int) - 1) = (j : Int) := w_pred (by omega)
    have hq : n / B ^ j < B := by rw [Nat.div_lt_iff_lt_mul (B_pos _), Nat.mul_comm, ← Nat.pow_succ]; exact hn
    by_cases hz : n / B ^ j = 0
    · refine Ev.step (fun k => ?_) (strip_l L n hL j (by omega) (lt_of_hi hz))
      rw [insolvencyref1_strip.l0, hw, if_pos (by omega), if_pos (by omega), if_pos (by rw [length_digN]; omega), rd_digN (by omega), if_pos (by rw [hz]; rfl)]
    · have hge : B ^ j ≤ n := by
        rcases Nat.lt_or_ge n (B ^ j) with h | h
        · exact absurd (Nat.div_eq_of_lt h) hz
        · exact h
      refine Ev.step (f := fun _ => some (dig n)) (fun k => ?_) (Ev.now _)
      rw [insolvencyref1_strip.l0, hw, if_pos (by omega), if_pos (by omega), if_pos (by rw [length_digN]; omega), rd_digN (by omega), Nat.mod_eq_of_lt hq, if_neg (by omega),
        if_pos (by omega), if_pos (by rw [length_digN]; omega), Int.toNat_natCast, digN_take hj, dig, nl_eq hn hge]
theorem strip_ev {L n : Nat} (hL : L ≤ 70368744177664) (hn : n < B ^ L) : Ev (fun k => insolvencyref1_strip.f k (digN L n)) (dig n) := by
  have := strip_l L n hL L (Nat.le_refl _) hn
  simpa only [insolvencyref1_strip.f, length_digN] using this

/-! Normalize -/
theorem rnorm_l (n W0 : Nat) (hW : W0 < 4611686018427387904) : ∀ W, W ≤ W0 → n < 256 ^ W → Ev (fun k => insolvencyref1_Normalize.l0 k (sN W0 n) ((W0 - W : Nat) : Int)) (enc n)
  | 0, _, hn => by
    have h0 : n = 0 := by simpa using hn
    subst h0
    refine Ev.step (f := fun _ => some (enc 0)) (fun k => ?_) (Ev.now _)
    rw [insolvencyref1_Normalize.l0, if_neg (by rw [size_sN]; omega), if_pos (by omega), if_pos (by rw [size_sN]; omega), Int.toNat_natCast, extract_sN (by omega), enc_zero, show W0 - (W0 - 0) = 0 by omega, sN_zero]
  | W + 1, hle, hn => by
    have hb : bt (sN W0 n) ((W0 - (W + 1) : Nat) : Int) = ((n / 256 ^ W % 256 : Nat) : Int) := by
      rw [bt_sN (by omega), show W0 - 1 - (W0 - (W + 1)) = W by omega]
    have hq := P_div hn
    have hw : wrap64 (((W0 - (W + 1) : Nat) : Int) + 1) = ((W0 - W : Nat) : Int) := by rw [w_succ (by omega)]; omega
    by_cases hz : n / 256 ^ W = 0
    · have hlt : n < 256 ^ W := (Nat.div_eq_zero_iff_lt (P_pos W)).1 hz
      refine Ev.step (fun k => ?_) (rnorm_l n W0 hW W (by omega) hlt)
      rw [insolvencyref1_Normalize.l0, if_pos (by rw [size_sN]; omega), if_pos (by omega), hb, hz, if_pos (by omega), hw]
    · have hge : 256 ^ W ≤ n := by
        rcases Nat.lt_or_ge n (256 ^ W) with h | h
        · exact absurd (Nat.div_eq_of_lt h) hz
        · exact h
      refine Ev.step (f := fun _ => some (enc n)) (fun k => ?_) (Ev.now _)
      rw [insolvencyref1_Normalize.l0, if_pos (by rw [size_sN]; omega), if_pos (by omega), hb, Nat.mod_eq_of_lt hq, if_neg (by omega), if_pos (by rw [size_sN]; omega), Int.toNat_natCast, extract_sN (by omega), enc, nb_eq hn hge, show W0 - (W0 - (W + 1)) = W + 1 by omega]
theorem rnorm_ev (s : ByteArray) (hs : s.size < 4611686018427387904) : Ev (fun k => insolvencyref1_Normalize.f k s) (enc (sv s)) := by
  have := rnorm_l (sv s) s.size hs s.size (Nat.le_refl _) (sv_lt s)
  rw [Nat.sub_self, ← sN_sv s] at this
  exact this

/-! limbs -/
theorem nl_nb (n : Nat) : (nb n + 3) / 4 = nl n := by
  have h1 := nb_le_nl n
  have h2 := nl_le_nb n
  omega
theorem limbs_l (s : ByteArray) (L : Nat) (hs : s.size ≤ 140737488355328) (hL : L = (s.size + 3) / 4) : ∀ d i, i + d = s.size → Ev (fun k => insolvencyref1_limbs.l0 k s (digN L (sv s % 256 ^ i)) (i : Int)) (digN L (sv s))
  | 0, i, hi => by
    obtain rfl : i = s.size := by omega
    rw [Nat.mod_eq_of_lt (sv_lt s)]
    refine Ev.step (f := fun _ => some (digN L (sv s))) (fun k => ?_) (Ev.now _)
    rw [insolvencyref1_limbs.l0, if_neg (by omega)]
  | d + 1, i, hi => by
    have h4 := Nat.mod_lt i (show 0 < 4 by decide)
    refine Ev.step (fun k => ?_) (limbs_l s L hs hL d (i + 1) (by omega))
    have hlo : sv s % 256 ^ i / B ^ (i / 4) < 256 ^ (i % 4) := low_dig
    have hp4 := P_four h4
    have hlB : sv s % 256 ^ i / B ^ (i / 4) % B = sv s % 256 ^ i / B ^ (i / 4) := Nat.mod_eq_of_lt (by unfold B at *; omega)
    have hb := byte_or h4 hlo (Nat.mod_lt (sv s / 256 ^ i) (show 0 < 256 by decide))
    have hu : IntKind.u64.wrap ((8 * (i % 4) : Nat) : Int) = ((8 * (i % 4) : Nat) : Int) := u64n (by omega) (by omega)
    rw [insolvencyref1_limbs.l0, tdiv4, tmod4, w_nat (by omega), w_8 _ h4, hu, w_sub _ _ (by omega) (by omega), w_succ (by omega), if_pos (by omega), if_pos (by omega), if_pos (by rw [length_digN]; omega), if_pos (by omega), if_pos (by omega), if_pos (by omega), if_pos (by omega),
      rd_digN (by omega), bt_sv (by omega), show s.size - 1 - (s.size - 1 - i) = i by omega, p_shl _ _ h4 (Nat.mod_lt _ (by decide)), hlB,
      or_u32 rfl rfl (by omega) (by omega), hb.1, Int.toNat_natCast]
    have := parse_set (L := L) (V := sv s) (i := i) (by omega)
    rw [hlB] at this
    rw [this]
theorem limbs_ev (s : ByteArray) (hs : s.size ≤ 140737488355328) : Ev (fun k => insolvencyref1_limbs.f k s) (dig (sv s)) := by
  have h2 := nb_sv s
  obtain ⟨n, hn⟩ : ∃ n, sv s = n := ⟨_, rfl⟩
  refine Ev.bind (rnorm_ev s (by omega)) ?_
  rw [hn] at h2 ⊢
  have hsz : (enc n).size = nb n := size_enc n
  have hw : wrap64 (Int.tdiv (wrap64 (((enc n).size : Int) + 3)) 4) = ((nl n : Nat) : Int) := by
    rw [hsz, ← nl_nb n, i64n (a := (nb n : Int) + 3) (by omega) (by omega), show (nb n : Int) + 3 = ((nb n + 3 : Nat) : Int) by omega, tdiv4, w_nat (by omega)]
  have := limbs_l (enc n) (nl n) (by omega) (by rw [hsz, nl_nb]) (enc n).size 0 (by omega)
  rw [sv_enc] at this
  refine Ev.congr (fun k => ?_) this
  have := nl_nb n
  rw [hw, if_pos (by omega), if_pos (by omega), Int.toNat_natCast, digN_zero, Nat.pow_zero, Nat.mod_one]
  rfl

/-! order -/
theorem order_l (m a b : Nat) (hm : m ≤ 70368744177664) : ∀ j, j ≤ m → a / B ^ j = b / B ^ j → Ev (fun k => insolvencyref1_order.l0 k (digN m a) (digN m b) ((j : Int) - 1)) (cmp a b)
  | 0, _, h => by
    have e : a = b := by simpa using h
    subst e
    refine Ev.step (f := fun _ => some 0) (fun k => ?_) (by rw [show cmp a a = 0 by simp [cmp]]; exact Ev.now _)
    rw [insolvencyref1_order.l0, if_neg (by omega)]
  | j + 1, hj, h => by
    have e : ((j + 1 : Nat) : Int) - 1 = (j : Int) := by omega
    rw [e]
    have ha := next (N := a) j
    have hb := next (N := b) j
    by_cases hd : a / B ^ j % B = b / B ^ j % B
    · have hw : wrap64 ((j : Int) - 1) = (j : Int) - 1 := i64n (by omega) (by omega)
      refine Ev.step (fun k => ?_) (order_l m a b hm j (by omega) (by rw [← ha, ← hb, h, hd]))
      rw [insolvencyref1_order.l0, hw, if_pos (by omega), if_pos (by omega), if_pos (by rw [length_digN]; omega), if_pos (by rw [length_digN]; omega), rd_digN (by omega), rd_digN (by omega), if_pos (by rw [hd])]
    · by_cases hl : a / B ^ j % B < b / B ^ j % B
      · have : a < b := by
          rcases Nat.lt_or_ge a b with h' | h'
          · exact h'
          · have := Nat.div_le_div_right (c := B ^ j) h'
            rw [h] at ha
            omega
        refine Ev.step (f := fun _ => some (-1)) (fun k => ?_) (by rw [show cmp a b = -1 by simp [cmp, this]]; exact Ev.now _)
        rw [insolvencyref1_order.l0, if_pos (by omega), if_pos (by omega), if_pos (by rw [length_digN]; omega), if_pos (by rw [length_digN]; omega), rd_digN (by omega), rd_digN (by omega), if_neg (by omega), if_pos (by omega)]
      · have : b < a := by
          rcases Nat.lt_or_ge b a with h' | h'
          · exact h'
          · have := Nat.div_le_div_right (c := B ^ j) h'
            rw [h] at ha
            omega
        refine Ev.step (f := fun _ => some 1) (fun k => ?_) (by rw [show cmp a b = 1 by unfold cmp; rw [if_neg (by omega), if_neg (by omega)]]; exact Ev.now _)
        rw [insolvencyref1_order.l0, if_pos (by omega), if_pos (by omega), if_pos (by rw [length_digN]; omega), if_pos (by rw [length_digN]; omega), rd_digN (by omega), rd_digN (by omega), if_neg (by omega), if_neg (by omega)]
theorem order_ev {a b : Nat} (ha : nl a ≤ 70368744177664) : Ev (fun k => insolvencyref1_order.f k (dig a) (dig b)) (cmp a b) := by
  by_cases h : nl a = nl b
  · have := order_l (nl a) a b ha (nl a) (Nat.le_refl _) (by rw [div_nl, h, div_nl])
    refine Ev.congr (fun k => ?_) this
    have hw : wrap64 ((nl a : Int) - 1) = (nl a : Int) - 1 := i64n (by omega) (by omega)
    rw [insolvencyref1_order.f, length_dig, length_dig, if_pos (by rw [h]), hw]
    simp only [dig, h]
  · refine Ev.congr (f := fun _ => some (cmp a b)) (fun k => ?_) (Ev.now _)
    rw [insolvencyref1_order.f, length_dig, length_dig, if_neg (by omega)]
    rcases Nat.lt_or_gt_of_ne h with h' | h'
    · rw [if_pos (by omega)]
      simp [cmp, lt_of_nl h']
    · rw [if_neg (by omega)]
      have := lt_of_nl h'
      unfold cmp
      rw [if_neg (by omega), if_neg (by omega)]

/-! short -/
theorem short_l (m a d : Nat) (hd : 0 < d) (hdB : d < 4294967296) (hm : m ≤ 70368744177664) (ha : a < B ^ m) : ∀ j, j ≤ m → Ev (fun k => insolvencyref1_short.l0 k (digN m a) (d : Int) (digN m (a / B ^ j / d * B ^ j)) ((a / B ^ j % d : Nat) : Int) ((j : Int) - 1)) (dig (a / d), ((a % d : Nat) : Int))
  | 0, _ => by
    have e1 : a / B ^ 0 / d * B ^ 0 = a / d := by simp
    have e2 : a / B ^ 0 % d = a % d := by simp
    have hr := Nat.mod_lt a hd
    have hq : a / d < B ^ m := Nat.lt_of_le_of_lt (Nat.div_le_self _ _) ha
    rw [e1, e2]
    refine Ev.step (f := fun k => (insolvencyref1_strip.f k (digN m (a / d))).bind fun t144 => (some (t144, ((a % d : Nat) : Int)))) (fun k => ?_) (Ev.bind (strip_ev hm hq) (Ev.now _))
    rw [insolvencyref1_short.l0, if_neg (by omega), show ((a % d : Nat) : Int) % 4294967296 = ((a % d : Nat) : Int) by omega]
  | j + 1, hj => by
    have e : ((j + 1 : Nat) : Int) - 1 = (j : Int) := by omega
    have hr := Nat.mod_lt (a / B ^ (j + 1)) hd
    have hn := small_num (a := a) (j := j) hd
    have hx := dgt_lt' a j
    have hw : wrap64 ((j : Int) - 1) = (j : Int) - 1 := i64n (by omega) (by omega)
    have hd' : IntKind.u64.wrap (d : Int) = (d : Int) := u64n (by omega) (by omega)
    have hqt : (a / B ^ (j + 1) % d * 4294967296 + a / B ^ j % B) / d < 4294967296 := by
      rw [Nat.div_lt_iff_lt_mul hd]
      calc a / B ^ (j + 1) % d * 4294967296 + a / B ^ j % B < (a / B ^ (j + 1) % d + 1) * 4294967296 := by omega
        _ ≤ d * 4294967296 := Nat.mul_le_mul_right _ hr
        _ = 4294967296 * d := Nat.mul_comm _ _
    have hbig : a / B ^ (j + 1) % d * 4294967296 + a / B ^ j % B < 18446744073709551616 := by omega
    refine Ev.step (fun k => ?_) (short_l m a d hd hdB hm ha j (by omega))
    rw [e, insolvencyref1_short.l0, hw, hd', if_pos (by omega), if_pos (by omega), if_pos (by rw [length_digN]; omega), if_neg (by omega), if_pos (by rw [length_digN]; omega), rd_digN (by omega), ds_or (by omega) hx]
    have hn1 : (a / B ^ (j + 1) % d * 4294967296 + a / B ^ j % B) / d + a / B ^ (j + 1) / d * B = a / B ^ j / d := hn.1
    have hn2 : (a / B ^ (j + 1) % d * 4294967296 + a / B ^ j % B) % d = a / B ^ j % d := hn.2
    rw [Int.tdiv_eq_ediv_of_nonneg (by omega), Int.tmod_eq_emod_of_nonneg (by omega), ← Int.natCast_ediv, ← Int.natCast_emod, hn2, Int.toNat_natCast]
    obtain ⟨Q, hQ⟩ : ∃ Q, (a / B ^ (j + 1) % d * 4294967296 + a / B ^ j % B) / d = Q := ⟨_, rfl⟩
    rw [hQ] at hqt hn1 ⊢
    have e3 : IntKind.u64.wrap (Q : Int) % 4294967296 = (Q : Int) := by
      rw [u64n (by omega) (by omega)]; omega
    rw [e3]
    have e4 : (digN m (a / B ^ (j + 1) / d * B ^ (j + 1))).set j (Q : Int) = digN m (a / B ^ j / d * B ^ j) := by
      apply digN_set (by omega) hqt
      have z : a / B ^ (j + 1) / d * B ^ (j + 1) / B ^ j % B = 0 := by
        rw [Nat.pow_succ, Nat.mul_comm (B ^ j) B, ← Nat.mul_assoc, Nat.mul_div_cancel _ (B_pos j), Nat.mul_mod_left]
      rw [z, Nat.zero_mul, Nat.add_zero, ← hn1, Nat.add_mul, Nat.pow_succ]
      grind
    rw [e4]
theorem short_ev {a d : Nat} (hd : 0 < d) (hdB : d < 4294967296) (ha : nl a ≤ 70368744177664) : Ev (fun k => insolvencyref1_short.f k (dig a) (d : Int)) (dig (a / d), ((a % d : Nat) : Int)) := by
  have := short_l (nl a) a d hd hdB ha (nl_lt a) (nl a) (Nat.le_refl _)
  refine Ev.congr (fun k => ?_) this
  have hw : wrap64 ((nl a : Int) - 1) = (nl a : Int) - 1 := i64n (by omega) (by omega)
  rw [insolvencyref1_short.f, length_dig, hw, if_pos (by omega), if_pos (by omega), Int.toNat_natCast, digN_zero, div_nl]
  simp only [Nat.zero_div, Nat.zero_mul, Nat.zero_mod, dig]
  rfl

/-! shifted -/
theorem shifted_l (a s m : Nat) (hb : s < 32) (hm : m ≤ 35184372088832) (ha : a < B ^ m) : ∀ d i, i + d = m →
    Ev (fun k => insolvencyref1_shifted.l0 k (digN m a) (s : Int) (digN (m + 1) (a % B ^ i * 2 ^ s)) (i : Int)) (digN (m + 1) (a * 2 ^ s))
  | 0, i, hi => by
    obtain rfl : i = m := by omega
    rw [Nat.mod_eq_of_lt ha]
    refine Ev.step (f := fun _ => some (digN (i + 1) (a * 2 ^ s))) (fun k => ?_) (Ev.now _)
    rw [insolvencyref1_shifted.l0, length_digN, if_neg (by omega)]
  | d + 1, i, hi => by
    have hx := dgt_lt' a i
    have hlt : a % B ^ i * 2 ^ s / B ^ i < 2 ^ s := sh_lt
    have h2 := two_le hb
    have hc : a % B ^ i * 2 ^ s / B ^ i % B = a % B ^ i * 2 ^ s / B ^ i := Nat.mod_eq_of_lt (by unfold B at *; omega)
    have ht := sh_t hx hb
    have ho := sh_or (t := a / B ^ i % B) hlt hb
    have hnum := sh_num (a := a) (by_ := s) (i := i)
    refine Ev.step (fun k => ?_) (shifted_l a s m hb hm ha d (i + 1) (by omega))
    rw [insolvencyref1_shifted.l0, length_digN, length_digN, if_pos (by omega), if_pos (by omega), if_pos (by omega), if_pos (by omega), if_pos (by omega), w_succ (by omega), if_pos (by omega), if_pos (by omega), rd_digN (by omega), rd_digN (by omega), hc, ht.1, ho.1, Int.toNat_natCast, Int.toNat_natCast]
    obtain ⟨t, ht0⟩ : ∃ t, a / B ^ i % B * 2 ^ s = t := ⟨_, rfl⟩
    rw [ht0] at ht ho hnum ⊢
    obtain ⟨c, hc0⟩ : ∃ c, a % B ^ i * 2 ^ s / B ^ i = c := ⟨_, rfl⟩
    rw [hc0] at hc ho ⊢
    have hlo : a % B ^ i * 2 ^ s + t % 4294967296 * B ^ i < B ^ (i + 1) := by
      have h := Nat.div_add_mod (a % B ^ i * 2 ^ s) (B ^ i)
      rw [hc0] at h
      have h3 := Nat.mod_lt (a % B ^ i * 2 ^ s) (B_pos i)
      have h4 : (c + t % 4294967296 + 1) * B ^ i ≤ B * B ^ i := Nat.mul_le_mul_right _ ho.2
      rw [Nat.pow_succ, Nat.mul_comm (B ^ i) B]
      rw [Nat.add_mul, Nat.add_mul, Nat.one_mul] at h4
      rw [Nat.mul_comm] at h
      omega
    have hset : (digN (m + 1) (a % B ^ i * 2 ^ s)).set i ((c + t % 4294967296 : Nat) : Int) = digN (m + 1) (a % B ^ i * 2 ^ s + t % 4294967296 * B ^ i) := by
      apply digN_set (by omega) ho.2
      rw [hc0, hc, Nat.add_mul]; omega
    rw [hset]
    have htot : a % B ^ i * 2 ^ s + t % 4294967296 * B ^ i + t / 4294967296 * B ^ (i + 1) = a % B ^ (i + 1) * 2 ^ s := by
      rw [← hnum, Nat.pow_succ]
      have : t * B ^ i = t % 4294967296 * B ^ i + t / 4294967296 * (B ^ i * B) := by
        have e : t = t % B + B * (t / B) := by unfold B; omega
        conv => lhs; rw [e]
        unfold B; grind
      omega
    have hthi : t / 4294967296 < 4294967296 := by omega
    have e5 : ((t : Nat) : Int) / 4294967296 % 4294967296 = ((t / 4294967296 : Nat) : Int) := by omega
    rw [e5, digN_put (by omega) hthi hlo, htot]
theorem shifted_ev {a s : Nat} (hb : s < 32) (hm : nl a ≤ 35184372088832) : Ev (fun k => insolvencyref1_shifted.f k (dig a) (s : Int)) (digN (nl a + 1) (a * 2 ^ s)) := by
  have := shifted_l a s (nl a) hb hm (nl_lt a) (nl a) 0 (by omega)
  refine Ev.congr (fun k => ?_) this
  rw [insolvencyref1_shifted.f, length_dig, w_succ (by omega), if_pos (by omega), if_pos (by omega), Int.toNat_natCast, digN_zero, Nat.pow_zero, Nat.mod_one, Nat.zero_mul]
  rfl

end Go.Proofs.YtiamgjepcagohaaDoor.P
end
section
/- What a call leaves: all blocks but those of S, and the world's other parts. -/
namespace Go.Proofs.YtiamgjepcagohaaDoor.Ari
open Go Go.RowKit Go.Proofs.YtiamgjepcagohaaDoorW.PrintWords Go.Proofs.YtiamgjepcagohaaDoorW.PrintLast Go.Proofs.YtiamgjepcagohaaDoorW.PrintMore

structure Chg (w W : World) (S : Nat → Prop) : Prop where
  os : W.os = w.os
  tape : W.tape = w.tape
  output : W.output = w.output
  size : w.heap.size ≤ W.heap.size
  block : ∀ k, k < w.heap.size → ¬ S k → W.heap[k]? = w.heap[k]?
section
variable {w W W2 : World} {S S2 S' : Nat → Prop}
theorem Chg.refl (w : World) (S : Nat → Prop) : Chg w w S := ⟨rfl, rfl, rfl, Nat.le_refl _, fun _ _ _ => rfl⟩
theorem Chg.of_below (h : Below w.heap.size w W) (S : Nat → Prop) : Chg w W S := ⟨h.os, h.tape, h.output, h.size, fun k hk _ => h.block k hk⟩
theorem Chg.mono (h : Chg w W S) (hs : ∀ k, S k → S' k) : Chg w W S' := ⟨h.os, h.tape, h.output, h.size, fun k hk hn => h.block k hk (fun h2 => hn (hs k h2))⟩
theorem Chg.then_ (h : Chg w W S) (k : Chg W W2 S2) (hs : ∀ k, S2 k → S k ∨ w.heap.size ≤ k) : Chg w W2 S :=
  ⟨k.os.trans h.os, k.tape.trans h.tape, k.output.trans h.output, Nat.le_trans h.size k.size, fun i hi hn => (k.block i (Nat.lt_of_lt_of_le hi h.size) (fun h2 => (hs i h2).elim hn (fun h3 => by omega))).trans (h.block i hi hn)⟩
theorem Chg.trans (h : Chg w W S) (k : Chg W W2 S) : Chg w W2 S := h.then_ k (fun _ h => .inl h)
theorem Chg.below (h : Chg w W S) (hb : Below W.heap.size W W2) : Chg w W2 S := h.then_ (Chg.of_below hb (fun _ => False)) (fun _ hk => hk.elim)
theorem Chg.drew (h : Chg w W S) : Chg w W.drew S := h.below (below_drew1 (Below.refl _ _))
theorem Chg.drewN (h : Chg w W S) (m : Nat) : Chg w (W.drewN m) S := h.below (pw_below_drewN (Below.refl _ _) m)
theorem Chg.setCell (h : Chg w W S) {p : Addr} (hp : S p.block ∨ w.heap.size ≤ p.block) (u : Value) : Chg w (W.setCell p u) S :=
  h.then_ (S2 := fun k => k = p.block) ⟨rfl, rfl, rfl, by simp [World.setCell], fun i _ hn => Below.heap_setCell W p u i hn⟩ (fun k hk => by rw [hk]; exact hp)
theorem Chg.grown {row : Option Nat} (h : Chg w W S) (hg : W.grownBy W2 row) (hr : ∀ k, row = some k → S k ∨ w.heap.size ≤ k) : Chg w W2 S :=
  h.then_ (S2 := fun k => row = some k) ⟨hg.os, hg.tape, hg.output, hg.size, fun i hi hn => hg.block i hi (fun he => hn he.symm)⟩ hr
theorem Chg.kept (h : Chg w W S) : Kept w W S := ⟨h.size, h.block⟩
/-- Seen from a world in which none of S was yet. -/
theorem Chg.out {w0 : World} (h : Chg w W S) (hb : Below w0.heap.size w0 w) (hs : ∀ k, S k → w0.heap.size ≤ k) : Below w0.heap.size w0 W :=
  ⟨h.os.trans hb.os, h.tape.trans hb.tape, h.output.trans hb.output, Nat.le_trans hb.size h.size, fun k hk => (h.block k (Nat.lt_of_lt_of_le hk hb.size) (fun h2 => by have := hs k h2; omega)).trans (hb.block k hk)⟩
theorem chg_cell {a : Addr} {v : Value} (hc : W.cell? a = some v) (hk : Chg W W2 S) (hne : ¬ S a.block) : W2.cell? a = some v := cell_kept hc hk.kept hne
theorem R_chg {d : Kd Int} {e base : Nat} {ok : Nat → Prop} {v : Value} {xs : List Int} (h : d.R e W base ok v xs) (hk : Chg W W2 S) (hne : ∀ k, ok k → ¬ S k) : d.R e W2 base ok v xs := Kd.R_kept h hk.kept hne
end
end Go.Proofs.YtiamgjepcagohaaDoor.Ari
end
section
namespace Go.Proofs.YtiamgjepcagohaaDoor.P
open Go Go.RowKit Go.Proofs.YtiamgjepcagohaaDoorW.PrintWords Go.Proofs.YtiamgjepcagohaaDoorW.PrintLast Go.Proofs.YtiamgjepcagohaaDoorW.PrintMore Go.Proofs.YtiamgjepcagohaaDoor.Ari

set_option maxHeartbeats 8000000 in
set_option maxRecDepth 1000000 in
theorem natural_step.calls (w0 w : World) (g L cap o n N V : Nat) (b1 c1 : Nat)
    (hR : Kd.R (Kd.int .u32) 85 w w0.heap.size (fun k => k = g) (.slice (some ⟨g, 0, none⟩) L cap) (digN L N))
    (hD : ∀ W, Chg w W (fun k => k = g) → ∀ j, j < n + 2 → W.cell? ⟨b1, j, none⟩ = some (.int .u32 ((V / B ^ j % B : Nat) : Int)))
    (hL : o + (n + 2) + 1 ≤ L) (hLB : L ≤ 70368744177664)
    (hV1 : V < B ^ (n + 2)) (hV2 : B ^ (n + 2) ≤ 2 * V) (hN : N < V * B ^ (o + 1)) :
    Calls Tryd.prog 85 #[.slice (some ⟨g, o, none⟩) (n + 2 + 1) (cap - o), .slice (some ⟨b1, 0, none⟩) (n + 2) c1] w fun e w' =>
      e = .returned (.int .u32 ((N / (V * B ^ o) : Nat) : Int)) ∧ Kd.R (Kd.int .u32) 85 w' w0.heap.size (fun k => k = g) (.slice (some ⟨g, 0, none⟩) L cap) (digN L (N % (V * B ^ o))) ∧ Chg w w' (fun k => k = g) := by
  have hc1 := Kd.R_celln 0 hR ((o + (n + 2) : Nat) : Int) (by omega) (by omega)
  have hc2 := Kd.R_celln 0 hR ((o + (n + 1) : Nat) : Int) (by omega) (by omega)
  have hd1 := hD w (Chg.refl _ _) (n + 1) (by omega)
  simp only [Int.toNat_natCast] at hc1 hc2
  obtain ⟨u1, hu1⟩ : ∃ x : Nat, N / B ^ (o + (n + 2)) % B = x := ⟨_, rfl⟩
  obtain ⟨u0, hu0⟩ : ∃ x : Nat, N / B ^ (o + (n + 1)) % B = x := ⟨_, rfl⟩
  obtain ⟨d1, hdd1⟩ : ∃ x : Nat, V / B ^ (n + 1) % B = x := ⟨_, rfl⟩
  have hq : rdOf 0 (digN L N) ((o + (n + 2) : Nat) : Int) = (u1 : Int) := (rd_digN (by omega)).trans (by rw [hu1])
  have hq2 : rdOf 0 (digN L N) ((o + (n + 1) : Nat) : Int) = (u0 : Int) := (rd_digN (by omega)).trans (by rw [hu0])
  rw [hq] at hc1
  rw [hq2] at hc2
  rw [hdd1] at hd1
  have hx1 := hc1.1
  have hx2 := hc2.1
  clear hc1 hc2 hq hq2
  have HR := Aside0.mk hR
  have HD := Aside0.mk hD
  clear hR hD
  have u1B : u1 < 4294967296 := by rw [← hu1]; exact dgt_lt' _ _
  have u0B : u0 < 4294967296 := by rw [← hu0]; exact dgt_lt' _ _
  have d1B : d1 < 4294967296 := by rw [← hdd1]; exact dgt_lt' _ _
  have hVp : 0 < V := by
    have := B_pos (n + 2)
    omega
  have hdV : V / B ^ (n + 1) = d1 := by
    rw [← hdd1, Nat.mod_eq_of_lt]
    rw [Nat.div_lt_iff_lt_mul (B_pos _), Nat.mul_comm, ← Nat.pow_succ]; exact hV1
  have hd1h : 2147483648 ≤ d1 := by
    rw [← hdV, Nat.le_div_iff_mul_le (B_pos _)]
    rw [Nat.pow_succ] at hV2
    unfold B at *
    omega
  have hN2 : N < B ^ (o + (n + 1) + 2) := by
    calc N < V * B ^ (o + 1) := hN
      _ ≤ B ^ (n + 2) * B ^ (o + 1) := Nat.mul_le_mul_right _ (Nat.le_of_lt hV1)
      _ = B ^ (o + (n + 1) + 2) := by rw [← Nat.pow_add]; congr 1; omega
  obtain ⟨T, hT⟩ : ∃ T, u1 * 4294967296 + u0 = T := ⟨_, rfl⟩
  have hTN : T = N / B ^ (o + n + 1) := by
    rw [← hT, ← hu1, ← hu0]
    exact top2 (o := o) (n := n + 1) hN2
  obtain ⟨q, hq0⟩ : ∃ q, N / (V * B ^ o) = q := ⟨_, rfl⟩
  have hqB : q < 4294967296 := by
    rw [← hq0, Nat.div_lt_iff_lt_mul (Nat.mul_pos hVp (B_pos o))]
    calc N < V * B ^ (o + 1) := hN
      _ = 4294967296 * (V * B ^ o) := by rw [Nat.pow_succ]; unfold B; grind
  have hqT : q ≤ T / d1 := by
    rw [← hq0, hTN, ← hdV]
    exact guess_ge (by rw [hdV]; omega)
  have hTle : T ≤ 4294967296 * d1 + 4294967295 := by
    have h1 : N / B ^ (o + n + 1) < (d1 + 1) * B := by
      rw [Nat.div_lt_iff_lt_mul (B_pos _)]
      have h2 : V < (d1 + 1) * B ^ (n + 1) := by
        rw [← hdV, Nat.add_mul, Nat.one_mul]; exact Nat.lt_div_mul_add (B_pos _)
      calc N < V * B ^ (o + 1) := hN
        _ ≤ (d1 + 1) * B ^ (n + 1) * B ^ (o + 1) := Nat.mul_le_mul_right _ (Nat.le_of_lt h2)
        _ = (d1 + 1) * B * B ^ (o + n + 1) := by rw [Nat.mul_assoc, ← Nat.pow_add, Nat.mul_assoc, ← Nat.pow_succ']; congr 2; omega
    rw [hTN]
    unfold B at h1 ⊢
    omega
  have hTd : T / d1 ≤ 4294967297 := by
    rw [Nat.div_le_iff_le_mul_add_pred (by omega)]
    omega
  obtain ⟨u2, hu2⟩ : ∃ x : Nat, N / B ^ (o + n) % B = x := ⟨_, rfl⟩
  obtain ⟨d2, hdd2⟩ : ∃ x : Nat, V / B ^ n % B = x := ⟨_, rfl⟩
  have u2B : u2 < 4294967296 := by rw [← hu2]; exact dgt_lt' _ _
  have d2B : d2 < 4294967296 := by rw [← hdd2]; exact dgt_lt' _ _
  have HGT : Aside0 (∀ G R, G * d1 + R = T → R * 4294967296 + u2 < G * d2 → q < G) := ⟨fun G R h h' => by
    rw [← hq0]
    refine guess_gt (n := n) (R := R) hVp ?_ ?_
    · rw [hdV, h, hTN]
    · rw [hu2, hdd2]; exact h'⟩
  have HLE : Aside0 (∀ G R, G < 4294967296 → G * d1 + R = T → G * d2 ≤ R * 4294967296 + u2 → G ≤ q + 1) := ⟨fun G R hG h h' => by
    rw [← hq0]
    refine guess_le (n := n) (R := R) hG ?_ ?_ ?_
    · have := (Nat.le_div_iff_mul_le (B_pos (n + 1))).1 (show d1 ≤ V / B ^ (n + 1) by rw [hdV]; exact Nat.le_refl _)
      refine Nat.le_trans ?_ this
      exact Nat.le_mul_of_pos_left _ (by omega)
    · rw [hdV, h, hTN]
    · rw [hu2, hdd2]; exact h'⟩
  have hBB : ∀ G S, G ≤ 4294967295 → 4294967296 ≤ S → G * d2 ≤ S * 4294967296 + u2 := fun G S h1 h2 => by
    have h3 : G * d2 ≤ 4294967295 * 4294967295 := Nat.mul_le_mul h1 (by omega)
    omega
  have HBB := Aside0.mk hBB
  have HTle := Aside0.mk hTle
  have Hu2 := Lib.hid hu2
  have Hd2 := Lib.hid hdd2
  clear hu2 hdd2 hBB hTle
  have TB : T < 18446744073709551616 := by omega
  have HTN := Lib.hid hTN
  have HdV := Lib.hid hdV
  have Hq := Lib.hid hq0
  have Hu1 := Lib.hid hu1
  have Hd1 := Lib.hid hdd1
  have HT : Hid (Go.bits .or .u64 ((u1 : Int) * 4294967296) (u0 : Int) = (T : Int)) := Lib.hid (by
    rw [or_u64 (n := u1 * 4294967296) (m := u0) (by simp) rfl (by omega) (by omega), or_add (i := 32) u0B, ← hT])
  have HQT := Aside0.mk hqT
  have HTd := Aside0.mk hTd
  clear hTN hdV hq0 hu1 hdd1 hT hu0 hqT hTd
  have HN := Aside0.mk hN
  have HN2 := Aside0.mk hN2
  have HV1 := Aside0.mk hV1
  have HV2 := Aside0.mk hV2
  clear hN hN2 hV1 hV2
  have z1 : 0 ≤ (n : Int) + 2 := by omega
  have z2 : (n : Int) + 2 < (n : Int) + 2 + 1 := by omega
  have z3 : ((n : Int) + 2).toNat = n + 2 := by omega
  have z4 : IntKind.i64.wrap ((n : Int) + 2 - 1) = (n : Int) + 1 := by rw [i64_w, i64n (by omega) (by omega)]; omega
  have z5 : 0 ≤ (n : Int) + 1 := by omega
  have z6 : ((n : Int) + 1).toNat = n + 1 := by omega
  have z7 : (n : Int) + 1 < (n : Int) + 2 := by omega
  have z8 : (n : Int) + 1 < (n : Int) + 2 + 1 := by omega
  have hd0 : ((d1 : Int) == 0) = false := by rw [beq_eq_false_iff_ne]; omega
  obtain ⟨G0, hG0⟩ : ∃ x : Nat, T / d1 = x := ⟨_, rfl⟩
  obtain ⟨R0, hR0⟩ : ∃ x : Nat, T % d1 = x := ⟨_, rfl⟩
  have hGT : G0 ≤ T := by rw [← hG0]; exact Nat.div_le_self _ _
  have wq : IntKind.u64.wrap ((T : Int) / (d1 : Int)) = (G0 : Int) := by
    have e : (T : Int) / (d1 : Int) = (G0 : Int) := by rw [← hG0]; simp
    rw [e, u64n (by omega) (by omega)]
  have wrm : (T : Int) % (d1 : Int) = (R0 : Int) := by rw [← hR0]; simp
  have HGR : Aside0 (G0 ≤ 4294967297 ∧ R0 < 4294967296 ∧ q ≤ G0 ∧ G0 * d1 + R0 = T) := ⟨by
    have h1 := Nat.mod_lt T (show 0 < d1 by omega)
    refine ⟨by rw [← hG0]; exact HTd.out, by omega, by rw [← hG0]; exact HQT.out, ?_⟩
    rw [← hG0, ← hR0, Nat.mul_comm]; exact Nat.div_add_mod _ _⟩
  clear hG0 hR0 HQT HTd
  go_enter Tryd.func85, Tryd.ntmps85
  go_wp2
  go_quiet (fail)
  rw [HT.out]
  clear HT
  go_wp2
  go_quiet (fail)
  (try rw [wq]); (try rw [wrm])
  clear wq wrm
  go_upto_block 0 with (fail)
  go_cut [7] (fun v7 wc => ∃ G : Nat, v7 = .int .u64 G ∧ Aside0 (G < 4294967296 ∧ q ≤ G ∧ G ≤ q + 1) ∧ Aside0 (Drawn0 w wc))
  case first =>
    have hc3 := Kd.R_celln 0 HR.out ((o + n : Nat) : Int) (by omega) (by omega)
    have hd2 := HD.out w (Chg.refl _ _) n (by omega)
    simp only [Int.toNat_natCast] at hc3
    have hq : rdOf 0 (digN L N) ((o + n : Nat) : Int) = (u2 : Int) := (rd_digN (by omega)).trans (by rw [Hu2.out])
    rw [hq] at hc3
    rw [Hd2.out] at hd2
    have hx3 := hc3.1
    clear hc3 hq
    have z9 : IntKind.i64.wrap ((n : Int) + 2 - 2) = (n : Int) := by rw [i64_w, i64n (by omega) (by omega)]; omega
    have z10 : 0 ≤ (n : Int) := by omega
    have z11 : (n : Int) < (n : Int) + 2 := by omega
    have z12 : (n : Int) < (n : Int) + 2 + 1 := by omega
    go_wp2
    go_loopw [7, 8] (fun v7 v8 wr => ∃ G R : Nat, v7 = .int .u64 G ∧ v8 = .int .u64 R ∧ Aside0 (G ≤ 4294967297 ∧ R < 4294967296 ∧ q ≤ G ∧ G * d1 + R = T) ∧ Aside0 (Drawn0 w wr)) (fun v7 _ _ => (intOf v7).toNat)
    case atStart => exact ⟨G0, R0, rfl, rfl, HGR, ⟨((Drawn0.refl w).step _).step _⟩⟩
    case round =>
      obtain ⟨G, R, rfl, rfl, HI, ⟨⟨m, rfl⟩⟩⟩ := hrel
      have GB := HI.out.1
      have RB := HI.out.2.1
      obtain ⟨S, hS0⟩ : ∃ S, R + d1 = S := ⟨_, rfl⟩
      have hS : (R : Int) + (d1 : Int) = (S : Int) := by omega
      have HS := Lib.hid hS0
      clear hS0
      by_cases c1 : 4294967296 ≤ G
      · have c1b : decide ((4294967296 : Int) ≤ (G : Int)) = true := decide_eq_true (by omega)
        by_cases c3 : 4294967296 ≤ S
        · have c3b : decide ((4294967296 : Int) ≤ (S : Int)) = true := decide_eq_true (by omega)
          go_wp2
          go_quiet (fail)
          go_wp2
          have hl : G - 1 < 4294967296 := by
            have h1 := HI.out.2.2.2
            have h2 := HS.out
            have h3 := HTle.out
            rcases Nat.lt_or_ge G 4294967297 with h | h
            · omega
            · exfalso
              obtain rfl : G = 4294967297 := by omega
              omega
          go_meet
          exact ⟨G - 1, by go_num, ⟨hl, by omega, HLE.out (G - 1) S (hl) (by have h1 := HI.out.2.2.2; have h2 := HS.out; rw [Nat.sub_mul, Nat.one_mul]; have h3 : d1 ≤ G * d1 := Nat.le_mul_of_pos_left _ (by omega); omega) (HBB.out _ _ (by have : G - 1 < 4294967296 := hl; omega) c3)⟩, ⟨by first | exact ⟨⟨_, rfl⟩⟩ | exact Drawn0.step ⟨⟨_, rfl⟩⟩ _⟩⟩
        · have c3b : decide ((4294967296 : Int) ≤ (S : Int)) = false := decide_eq_false (by omega)
          go_wp2
          go_quiet (fail)
          go_wp2
          go_roundw
          case rel => exact ⟨G - 1, S, by go_num, rfl, ⟨by omega, by omega, by omega, by have h1 := HI.out.2.2.2; have h2 := HS.out; rw [Nat.sub_mul, Nat.one_mul]; have h3 : d1 ≤ G * d1 := Nat.le_mul_of_pos_left _ (by omega); omega⟩, ⟨by first | exact ⟨⟨_, rfl⟩⟩ | exact Drawn0.step ⟨⟨_, rfl⟩⟩ _⟩⟩
          case measure => simp [intOf]; omega
      · have c1b : decide ((4294967296 : Int) ≤ (G : Int)) = false := decide_eq_false (by omega)
        obtain ⟨X, hX⟩ : ∃ X, G * d2 = X := ⟨_, rfl⟩
        obtain ⟨Y, hY⟩ : ∃ Y, R * 4294967296 + u2 = Y := ⟨_, rfl⟩
        have XB : X < 18446744073709551616 := by
          have h1 : G * d2 ≤ 4294967295 * 4294967295 := Nat.mul_le_mul (by omega) (by omega)
          omega
        have hp : IntKind.u64.wrap ((G : Int) * (d2 : Int)) = (X : Int) := by
          have e : (G : Int) * (d2 : Int) = (X : Int) := by rw [← hX]; simp
          rw [e, u64n (by omega) (by omega)]
        have ho : Go.bits .or .u64 ((R : Int) * 4294967296) (u2 : Int) = (Y : Int) := by
          rw [or_u64 (n := R * 4294967296) (m := u2) (by simp) rfl (by omega) (by omega), or_add (i := 32) u2B, ← hY]
        have HX := Lib.hid hX
        have HY := Lib.hid hY
        clear hX hY
        by_cases c2 : Y < X
        · have c2b : decide ((Y : Int) < (X : Int)) = true := decide_eq_true (by omega)
          have g1 : 1 ≤ G := by
            rcases Nat.eq_zero_or_pos G with h | h
            · have := HX.out; rw [h, Nat.zero_mul] at this; omega
            · exact h
          by_cases c3 : 4294967296 ≤ S
          · have c3b : decide ((4294967296 : Int) ≤ (S : Int)) = true := decide_eq_true (by omega)
            go_wp2
            go_quiet (fail)
            go_wp2
            have hl : G - 1 < 4294967296 := by omega
            go_meet
            exact ⟨G - 1, by go_num, ⟨hl, by have := HGT.out G R HI.out.2.2.2 (by rw [HX.out, HY.out]; exact c2); omega, HLE.out (G - 1) S hl (by have h1 := HI.out.2.2.2; have h2 := HS.out; rw [Nat.sub_mul, Nat.one_mul]; have h3 : d1 ≤ G * d1 := Nat.le_mul_of_pos_left _ (by omega); omega) (HBB.out _ _ (by have : G - 1 < 4294967296 := hl; omega) c3)⟩, ⟨by first | exact ⟨⟨_, rfl⟩⟩ | exact Drawn0.step ⟨⟨_, rfl⟩⟩ _⟩⟩
          · have c3b : decide ((4294967296 : Int) ≤ (S : Int)) = false := decide_eq_false (by omega)
            go_wp2
            go_quiet (fail)
            go_wp2
            go_roundw
            case rel => exact ⟨G - 1, S, by go_num, rfl, ⟨by omega, by omega, by have := HGT.out G R HI.out.2.2.2 (by rw [HX.out, HY.out]; exact c2); omega, by have h1 := HI.out.2.2.2; have h2 := HS.out; rw [Nat.sub_mul, Nat.one_mul]; have h3 : d1 ≤ G * d1 := Nat.le_mul_of_pos_left _ (by omega); omega⟩, ⟨by first | exact ⟨⟨_, rfl⟩⟩ | exact Drawn0.step ⟨⟨_, rfl⟩⟩ _⟩⟩
            case measure => simp [intOf]; omega
        · have c2b : decide ((Y : Int) < (X : Int)) = false := decide_eq_false (by omega)
          go_wp2
          go_quiet (fail)
          go_wp2
          go_meet
          exact ⟨G, rfl, ⟨by omega, HI.out.2.2.1, HLE.out G R (by omega) HI.out.2.2.2 (by rw [HX.out, HY.out]; omega)⟩, ⟨by first | exact ⟨⟨_, rfl⟩⟩ | exact Drawn0.step ⟨⟨_, rfl⟩⟩ _⟩⟩
  case rest =>
    obtain ⟨G, rfl, HG, ⟨⟨m, rfl⟩⟩⟩ := hcut
    have GB := HG.out.1
    clear HGT HLE HBB HGR HTle hx1 hx2 hd1 Hu1 Hu2 Hd1 Hd2 HTN HdV
    go_wp2
    go_loopw [9, 10, 84] (fun v9 v10 v84 wr => ∃ k c b M : Nat, k ≤ n + 2 ∧ v9 = .int .u64 c ∧ v10 = .int .u32 b ∧ v84 = .int .i64 k ∧ c < 4294967296 ∧ b ≤ 1 ∧ Aside0 (M + G * (V % B ^ k) * B ^ o = N + (c + b) * B ^ (o + k) ∧ M / B ^ (o + k) = N / B ^ (o + k)) ∧ Aside0 (Kd.R (Kd.int .u32) 85 wr w0.heap.size (fun k => k = g) (.slice (some ⟨g, 0, none⟩) L cap) (digN L M)) ∧ Aside0 (Chg w wr (fun k => k = g))) (fun _ _ v84 _ => n + 2 - (intOf v84).toNat)
    case atStart => exact ⟨0, 0, 0, N, by omega, rfl, rfl, rfl, by omega, by omega, ⟨by simp [Nat.mod_one], rfl⟩, ⟨Kd.R_drewN HR.out _⟩, ⟨(Chg.refl _ _).drewN _⟩⟩
    case round =>
      obtain ⟨k, c, b, M, hk, rfl, rfl, rfl, hcB, hbB, HM, HRM, HKM⟩ := hrel
      by_cases hlt : k < n + 2
      · obtain ⟨v, hv⟩ : ∃ v : Nat, V / B ^ k % B = v := ⟨_, rfl⟩
        obtain ⟨x, hx⟩ : ∃ x : Nat, M / B ^ (o + k) % B = x := ⟨_, rfl⟩
        have hcd := HD.out _ HKM.out k hlt
        have hcx := Kd.R_celln 0 HRM.out ((o + k : Nat) : Int) (by omega) (by omega)
        have hq : rdOf 0 (digN L M) ((o + k : Nat) : Int) = (x : Int) := (rd_digN (by omega)).trans (by rw [hx])
        simp only [Int.toNat_natCast] at hcx
        rw [hq] at hcx
        rw [hv] at hcd
        have hcx1 := hcx.1
        have hcx2 := hcx.2
        have vB : v < 4294967296 := by rw [← hv]; exact dgt_lt' _ _
        have xB : x < 4294967296 := by rw [← hx]; exact dgt_lt' _ _
        have Hv := Lib.hid hv
        have Hx := Lib.hid hx
        clear hcx hq hv hx
        obtain ⟨Pr, hPr⟩ : ∃ X, G * v = X := ⟨_, rfl⟩
        have PB : Pr ≤ 4294967295 * 4294967295 := by rw [← hPr]; exact Nat.mul_le_mul (by omega) (by omega)
        obtain ⟨t, ht⟩ : ∃ t, Pr + c = t := ⟨_, rfl⟩
        obtain ⟨c', hc'⟩ : ∃ z, t / 4294967296 = z := ⟨_, rfl⟩
        obtain ⟨lo, hlo⟩ : ∃ z, t % 4294967296 = z := ⟨_, rfl⟩
        have r1 : IntKind.u64.wrap ((G : Int) * (v : Int)) = (Pr : Int) := by
          have e : (G : Int) * (v : Int) = (Pr : Int) := by rw [← hPr]; simp
          rw [e, u64n (by omega) (by omega)]
        have r2 : (Pr : Int) + (c : Int) = (t : Int) := by omega
        have r3 : (t : Int) / 4294967296 = (c' : Int) := by omega
        have r4 : (t : Int) % 4294967296 = (lo : Int) := by omega
        have tB : t < 18446744073709551616 := by omega
        have cB' : c' < 4294967296 := by omega
        have lB' : lo < 4294967296 := by omega
        obtain ⟨y, b', hy, hb', hsub⟩ : ∃ y b' : Nat, y + lo + b = x + b' * B ∧ (b' ≤ 1 ∧ y < 4294967296) ∧ bits_Sub32.f (x : Int) (lo : Int) (b : Int) = some ((y : Int), (b' : Int)) := by
          unfold bits_Sub32.f Ari.sbor B
          rw [if_pos (by omega)]
          by_cases hh : x < lo + b
          · refine ⟨x + 4294967296 - lo - b, 1, by omega, by omega, ?_⟩
            rw [if_pos (by omega)]
            congr 2
            omega
          · refine ⟨x - lo - b, 0, by omega, by omega, ?_⟩
            rw [if_neg (by omega)]
            congr 2
            omega
        have HPr := Lib.hid hPr
        have Ht := Lib.hid ht
        have Hc' := Lib.hid hc'
        have Hlo := Lib.hid hlo
        have HY := Lib.hid hy
        have HSUB := Lib.hid hsub
        have hyB := hb'.2
        have hbB' := hb'.1
        clear hPr ht hc' hlo hy hb' hsub
        have q1 : 0 ≤ (k : Int) := by omega
        have q2 : (k : Int) < (n : Int) + 2 := by omega
        have q3 : (k : Int) < (n : Int) + 2 + 1 := by omega
        go_wp2_with (go_at_call 77; refine (bits_Sub32.calls _ _ _ _ _ _ HSUB.out).mono ?_; rintro e w' ⟨rfl, ⟨nd, rfl⟩⟩)
        go_roundw
        case rel =>
          obtain ⟨M', hM'⟩ := put_ex M (o + k) y
          have hhi := hi_of B0 hyB hM'
          have hset := digN_set (L := L) (show o + k < L by omega) hyB hM'
          rw [Hx.out] at hM'
          refine ⟨k + 1, c', b', M', by omega, rfl, rfl, by go_num, cB', hbB', ⟨?_, ?_⟩, ⟨?_⟩, ⟨?_⟩⟩
          · refine sub_step HM.out.1 HY.out ?_ hM'
            rw [Hv.out, HPr.out, Ht.out]
            have h1 := Hc'.out
            have h2 := Hlo.out
            unfold B
            omega
          · rw [← Nat.add_assoc, hhi, Nat.pow_succ, ← Nat.div_div_eq_div_mul, HM.out.2, Nat.div_div_eq_div_mul]
          · rw [← hset]
            exact (Kd.R_putg (Kd.R_drewN HRM.out nd) ((o + k : Nat) : Int) _).1
          · exact (HKM.out.drewN nd).setCell (.inl rfl) _
        case measure => simp [intOf]; omega
      · obtain rfl : k = n + 2 := by omega
        clear hlt hk
        obtain ⟨x, hx⟩ : ∃ x : Nat, M / B ^ (o + (n + 2)) % B = x := ⟨_, rfl⟩
        have hcx := Kd.R_celln 0 HRM.out ((o + (n + 2) : Nat) : Int) (by omega) (by omega)
        have hq : rdOf 0 (digN L M) ((o + (n + 2) : Nat) : Int) = (x : Int) := (rd_digN (by omega)).trans (by rw [hx])
        simp only [Int.toNat_natCast] at hcx
        rw [hq] at hcx
        have hcx1 := hcx.1
        have hcx2 := hcx.2
        have xB : x < 4294967296 := by rw [← hx]; exact dgt_lt' _ _
        have Hx := Lib.hid hx
        clear hcx hq hx
        obtain ⟨y, b', hy, hb', hsub⟩ : ∃ y b' : Nat, y + c + b = x + b' * B ∧ (b' ≤ 1 ∧ y < 4294967296) ∧ bits_Sub32.f (x : Int) (c : Int) (b : Int) = some ((y : Int), (b' : Int)) := by
          unfold bits_Sub32.f Ari.sbor B
          rw [if_pos (by omega)]
          by_cases hh : x < c + b
          · refine ⟨x + 4294967296 - c - b, 1, by omega, by omega, ?_⟩
            rw [if_pos (by omega)]
            congr 2
            omega
          · refine ⟨x - c - b, 0, by omega, by omega, ?_⟩
            rw [if_neg (by omega)]
            congr 2
            omega
        have hyB := hb'.2
        have hbB' := hb'.1
        clear hb'
        obtain ⟨M', hM'⟩ := put_ex M (o + (n + 2)) y
        have HSET := Aside0.mk (digN_set (L := L) (show o + (n + 2) < L by omega) hyB hM')
        have hMlt : M < B ^ (o + (n + 2) + 1) := by
          apply lt_of_hi
          have h1 := HM.out.2
          rw [Nat.pow_succ, ← Nat.div_div_eq_div_mul, h1, Nat.div_div_eq_div_mul, ← Nat.pow_succ]
          exact Nat.div_eq_of_lt HN2.out
        have hM'lt : M' < B ^ (o + (n + 2) + 1) := by
          apply lt_of_hi
          rw [hi_of B0 hyB hM']
          exact Nat.div_eq_of_lt hMlt
        rw [Hx.out] at hM'
        have hMe : M + G * V * B ^ o = N + (c + b) * B ^ (o + (n + 2)) := by
          have := HM.out.1
          rw [Nat.mod_eq_of_lt HV1.out] at this
          exact this
        have HM' := Aside0.mk hM'
        have HMlt := Aside0.mk hM'lt
        have HMe := Aside0.mk hMe
        have HY := Aside0.mk hy
        have HSUB := Lib.hid hsub
        clear hM' hM'lt hMlt hMe hy hsub
        rcases Nat.eq_zero_or_pos b' with hb0 | hb1
        · obtain rfl := hb0
          have hfin : G = N / (V * B ^ o) ∧ M' = N % (V * B ^ o) := sub_end0 hVp HMe.out (by have := HY.out; omega) HM'.out (by rw [Hq.out]; exact HG.out.2.1)
          have HF := Aside0.mk hfin
          clear hfin
          go_wp2_with (go_at_call 77; refine (bits_Sub32.calls _ _ _ _ _ _ HSUB.out).mono ?_; rintro e w' ⟨rfl, ⟨nd, rfl⟩⟩)
          go_ret
          refine ⟨?_, ?_, ?_⟩
          · rw [← HF.out.1]; rfl
          · rw [← HF.out.2, ← HSET.out]
            exact (Kd.R_putg (Kd.R_drewN HRM.out nd) ((o + (n + 2) : Nat) : Int) _).1
          · exact (HKM.out.drewN nd).setCell (.inl rfl) _
        · obtain rfl : b' = 1 := by omega
          clear hb1 hbB'
          have hfin := sub_end1 hVp HMe.out (by have := HY.out; omega) HM'.out HMlt.out (by rw [Hq.out]; exact HG.out.2.2)
          have HF := Aside0.mk hfin
          clear hfin
          have g1 : 1 ≤ G := by have := HF.out.1; rw [Hq.out] at this; omega
          go_wp2_with (go_at_call 77; refine (bits_Sub32.calls _ _ _ _ _ _ HSUB.out).mono ?_; rintro e w' ⟨rfl, ⟨nd, rfl⟩⟩)
          have HR1 : Aside0 (Kd.R (Kd.int .u32) 85 ((wr.drewN nd).setCell ⟨g, o + (n + 2), none⟩ (.int .u32 (y : Int))) w0.heap.size (fun k => k = g) (.slice (some ⟨g, 0, none⟩) L cap) (digN L M')) := ⟨by
            rw [← HSET.out]
            exact (Kd.R_putg (Kd.R_drewN HRM.out nd) ((o + (n + 2) : Nat) : Int) _).1⟩
          have HK1 : Aside0 (Chg w ((wr.drewN nd).setCell ⟨g, o + (n + 2), none⟩ (.int .u32 (y : Int))) (fun k => k = g)) := ⟨(HKM.out.drewN nd).setCell (.inl rfl) _⟩
          clear hcx1 hcx2 HRM HKM HSET HSUB
          go_loopw [14, 132] (fun v14 v132 wr => ∃ k c M : Nat, k ≤ n + 2 ∧ v14 = .int .u32 c ∧ v132 = .int .i64 k ∧ c ≤ 1 ∧ Aside0 (M + c * B ^ (o + k) = M' + V % B ^ k * B ^ o ∧ M / B ^ (o + k) = M' / B ^ (o + k)) ∧ Aside0 (Kd.R (Kd.int .u32) 85 wr w0.heap.size (fun k => k = g) (.slice (some ⟨g, 0, none⟩) L cap) (digN L M)) ∧ Aside0 (Chg w wr (fun k => k = g))) (fun _ v132 _ => n + 2 - (intOf v132).toNat)
          case atStart => exact ⟨0, 0, M', by omega, rfl, rfl, by omega, ⟨by simp [Nat.mod_one], rfl⟩, HR1, HK1⟩
          case round =>
            clear HR1 HK1
            obtain ⟨k, c, M, hk, rfl, rfl, hcB, HM, HRM, HKM⟩ := hrel
            by_cases hlt : k < n + 2
            · obtain ⟨v, hv⟩ : ∃ v : Nat, V / B ^ k % B = v := ⟨_, rfl⟩
              obtain ⟨x, hx⟩ : ∃ x : Nat, M / B ^ (o + k) % B = x := ⟨_, rfl⟩
              have hcd := HD.out _ HKM.out k hlt
              have hcx := Kd.R_celln 0 HRM.out ((o + k : Nat) : Int) (by omega) (by omega)
              have hq : rdOf 0 (digN L M) ((o + k : Nat) : Int) = (x : Int) := (rd_digN (by omega)).trans (by rw [hx])
              simp only [Int.toNat_natCast] at hcx
              rw [hq] at hcx
              rw [hv] at hcd
              have hcx1 := hcx.1
              have hcx2 := hcx.2
              have vB : v < 4294967296 := by rw [← hv]; exact dgt_lt' _ _
              have xB : x < 4294967296 := by rw [← hx]; exact dgt_lt' _ _
              have Hv := Lib.hid hv
              have Hx := Lib.hid hx
              clear hcx hq hv hx
              obtain ⟨y, c', hy, hb', hsub⟩ : ∃ y c' : Nat, y + c' * B = x + v + c ∧ (c' ≤ 1 ∧ y < 4294967296) ∧ bits_Add32.f (x : Int) (v : Int) (c : Int) = some ((y : Int), (c' : Int)) := by
                refine ⟨(x + v + c) % 4294967296, (x + v + c) / 4294967296, by unfold B; omega, by omega, ?_⟩
                unfold bits_Add32.f
                simp only [u64m]
                congr 2
                · omega
                · omega
              have hyB := hb'.2
              have hbB' := hb'.1
              have HY := Aside0.mk hy
              have HSUB := Lib.hid hsub
              clear hb' hy hsub
              have q1 : 0 ≤ (k : Int) := by omega
              have q2 : (k : Int) < (n : Int) + 2 := by omega
              have q3 : (k : Int) < (n : Int) + 2 + 1 := by omega
              go_wp2_with (go_at_call 66; refine (bits_Add32.calls _ _ _ _ _ _ HSUB.out).mono ?_; rintro e w' ⟨rfl, ⟨nd, rfl⟩⟩)
              go_roundw
              case rel =>
                obtain ⟨M2, hM2⟩ := put_ex M (o + k) y
                have hhi := hi_of B0 hyB hM2
                have hset := digN_set (L := L) (show o + k < L by omega) hyB hM2
                rw [Hx.out] at hM2
                refine ⟨k + 1, c', M2, by omega, rfl, by go_num, hbB', ⟨?_, ?_⟩, ⟨?_⟩, ⟨?_⟩⟩
                · refine add_step HM.out.1 ?_ hM2
                  rw [Hv.out, HY.out]
                · rw [← Nat.add_assoc, hhi, Nat.pow_succ, ← Nat.div_div_eq_div_mul, HM.out.2, Nat.div_div_eq_div_mul]
                · rw [← hset]
                  exact (Kd.R_putg (Kd.R_drewN HRM.out nd) ((o + k : Nat) : Int) _).1
                · exact (HKM.out.drewN nd).setCell (.inl rfl) _
              case measure => simp [intOf]; omega
            · obtain rfl : k = n + 2 := by omega
              clear hlt hk
              obtain ⟨x, hx⟩ : ∃ x : Nat, M / B ^ (o + (n + 2)) % B = x := ⟨_, rfl⟩
              have hcx := Kd.R_celln 0 HRM.out ((o + (n + 2) : Nat) : Int) (by omega) (by omega)
              have hq : rdOf 0 (digN L M) ((o + (n + 2) : Nat) : Int) = (x : Int) := (rd_digN (by omega)).trans (by rw [hx])
              simp only [Int.toNat_natCast] at hcx
              rw [hq] at hcx
              have hcx1 := hcx.1
              have hcx2 := hcx.2
              have xB : x < 4294967296 := by rw [← hx]; exact dgt_lt' _ _
              have Hx := Lib.hid hx
              clear hcx hq hx
              obtain ⟨y, hy⟩ : ∃ y : Nat, (x + c) % B = y := ⟨_, rfl⟩
              have hyB : y < 4294967296 := by rw [← hy]; exact Nat.mod_lt _ B0
              have hyr : ((x : Int) + (c : Int)) % 4294967296 = (y : Int) := by rw [← hy]; unfold B; omega
              obtain ⟨M2, hM2⟩ := put_ex M (o + (n + 2)) y
              have HSET := Aside0.mk (digN_set (L := L) (show o + (n + 2) < L by omega) hyB hM2)
              rw [Hx.out] at hM2
              have hMlt : M < B ^ (o + (n + 2) + 1) := by
                apply lt_of_hi
                have h1 := HM.out.2
                rw [Nat.pow_succ, ← Nat.div_div_eq_div_mul, h1, Nat.div_div_eq_div_mul, ← Nat.pow_succ]
                exact Nat.div_eq_of_lt HMlt.out
              have hfin : M2 = N % (V * B ^ o) := by
                have h1 := HM.out.1
                rw [Nat.mod_eq_of_lt HV1.out] at h1
                exact add_end h1 HF.out.2 hMlt hcB Hx.out hy.symm hM2
              have HFIN := Aside0.mk hfin
              clear hy hM2 hMlt hfin
              go_wp2
              go_ret
              refine ⟨?_, ?_, ?_⟩
              · have h1 := HF.out.1
                have h2 : ((N / (V * B ^ o) : Nat) : Int) = (G : Int) - 1 := by
                  rw [Hq.out] at h1 ⊢
                  omega
                rw [h2]; rfl
              · rw [← HFIN.out, ← HSET.out]
                exact (Kd.R_putg HRM.out ((o + (n + 2) : Nat) : Int) _).1
              · exact HKM.out.setCell (.inl rfl) _
end Go.Proofs.YtiamgjepcagohaaDoor.P
end
