/- What the printed functions on numbers compute: plain laws. -/
import Derived.Test.YtiamgjepcagohaaDoorClPx
import Derived.Test.YtiamgjepcagohaaDoorClKnuth
namespace Go.Proofs.YtiamgjepcagohaaDoor.P
open Go Go.RowKit Go.Proofs.YtiamgjepcagohaaDoorW.PrintWords Go.Proofs.YtiamgjepcagohaaDoorW.PrintLast Go.Proofs.YtiamgjepcagohaaDoorW.PrintMore Go.Proofs.YtiamgjepcagohaaDoor.Ari

theorem w_succ {i : Nat} (h : i < 4611686018427387904) : wrap64 ((i : Int) + 1) = ((i + 1 : Nat) : Int) := by rw [i64n (by omega) (by omega)]; omega
theorem w_pred {i : Nat} (h : i < 4611686018427387904) : wrap64 (((i + 1 : Nat) : Int) - 1) = (i : Int) := by rw [i64n (by omega) (by omega)]; omega
theorem w_nat {i : Nat} (h : i < 4611686018427387904) : wrap64 (i : Int) = (i : Int) := by rw [i64n (by omega) (by omega)]

/-! trim -/
theorem trim_l (L n : Nat) (hL : L ≤ 70368744177664) : ∀ j, j ≤ L → n < B ^ j → Ev (fun k => natural_limbs_trim.l0 k (digN L n) (j : Int)) (dig n)
  | 0, _, hn => by
    have h0 : n = 0 := by simpa using hn
    subst h0
    refine Ev.step (f := fun _ => some (dig 0)) (fun k => ?_) (Ev.now _)
    rw [natural_limbs_trim.l0, if_neg (by omega), if_pos (by omega), if_pos (by rw [length_digN]; omega), dig_zero]
    rfl
  | j + 1, hj, hn => by
    have hw : wrap64 (((j + 1 : Nat) : Int) - 1) = (j : Int) := w_pred (by omega)
    have hq : n / B ^ j < B := by rw [Nat.div_lt_iff_lt_mul (B_pos _), Nat.mul_comm, ← Nat.pow_succ]; exact hn
    by_cases hz : n / B ^ j = 0
    · refine Ev.step (fun k => ?_) (trim_l L n hL j (by omega) (lt_of_hi hz))
      rw [natural_limbs_trim.l0, hw, if_pos (by omega), if_pos (by omega), if_pos (by rw [length_digN]; omega), rd_digN (by omega), if_pos (by rw [hz]; rfl)]
    · have hge : B ^ j ≤ n := by
        rcases Nat.lt_or_ge n (B ^ j) with h | h
        · exact absurd (Nat.div_eq_of_lt h) hz
        · exact h
      refine Ev.step (f := fun _ => some (dig n)) (fun k => ?_) (Ev.now _)
      rw [natural_limbs_trim.l0, hw, if_pos (by omega), if_pos (by omega), if_pos (by rw [length_digN]; omega), rd_digN (by omega), Nat.mod_eq_of_lt hq, if_neg (by omega),
        if_pos (by omega), if_pos (by rw [length_digN]; omega), Int.toNat_natCast, digN_take hj, dig, nl_eq hn hge]
theorem trim_ev {L n : Nat} (hL : L ≤ 70368744177664) (hn : n < B ^ L) : Ev (fun k => natural_limbs_trim.f k (digN L n)) (dig n) := by
  have := trim_l L n hL L (Nat.le_refl _) hn
  simpa only [natural_limbs_trim.f, length_digN] using this

/-! Normalize -/
theorem extract_sN {W i n : Nat} (hi : i ≤ W) : (sN W n).extract i (sN W n).size = sN (W - i) n := by
  apply ByteArray.ext
  apply Array.toList_inj.1
  rw [ByteArray.data_extract, size_sN]
  show ((beU W n).toArray.extract i W).toList = beU (W - i) n
  rw [List.extract_toArray, List.extract_eq_take_drop]
  apply List.ext_getElem
  · simp [beU]
  · intro j h1 h2
    simp only [beU, List.length_map, List.length_range] at h2
    simp only [beU, List.getElem_take, List.getElem_drop, List.getElem_map, List.getElem_range]
    rw [show W - 1 - (i + j) = W - i - 1 - j by omega]
theorem P_div {W n : Nat} (h : n < 256 ^ (W + 1)) : n / 256 ^ W < 256 := by
  rw [Nat.div_lt_iff_lt_mul (P_pos _), Nat.mul_comm, ← Nat.pow_succ]; exact h
theorem norm_l (n : Nat) : ∀ W, W < 4611686018427387904 → n < 256 ^ W → Ev (fun k => strings_trimLeftByte.l0 k (sN W n) 0) (enc n)
  | 0, _, hn => by
    have h0 : n = 0 := by simpa using hn
    subst h0
    refine Ev.step (f := fun _ => some (enc 0)) (fun k => ?_) (Ev.now _)
    rw [strings_trimLeftByte.l0, if_neg (by rw [size_sN]; omega), enc_zero, sN_zero]
  | W + 1, hW, hn => by
    have hb : bt (sN (W + 1) n) 0 = ((n / 256 ^ W % 256 : Nat) : Int) := by
      have := bt_sN (W := W + 1) (n := n) (j := 0) (by omega)
      simpa using this
    have hq := P_div hn
    by_cases hz : n / 256 ^ W = 0
    · have hlt : n < 256 ^ W := (Nat.div_eq_zero_iff_lt (P_pos W)).1 hz
      refine Ev.step (fun k => ?_) (norm_l n W (by omega) hlt)
      rw [strings_trimLeftByte.l0, if_pos (by rw [size_sN]; omega), if_pos (by rw [size_sN]; omega), hb, hz, if_pos (by omega), if_pos (by rw [size_sN]; omega), extract_sN (by omega)]
      rfl
    · have hge : 256 ^ W ≤ n := by
        rcases Nat.lt_or_ge n (256 ^ W) with h | h
        · exact absurd (Nat.div_eq_of_lt h) hz
        · exact h
      refine Ev.step (f := fun _ => some (enc n)) (fun k => ?_) (Ev.now _)
      rw [strings_trimLeftByte.l0, if_pos (by rw [size_sN]; omega), if_pos (by rw [size_sN]; omega), hb, Nat.mod_eq_of_lt hq, if_neg (by omega), enc, nb_eq hn hge]
theorem norm_ev {W n : Nat} (hW : W < 4611686018427387904) (hn : n < 256 ^ W) : Ev (fun k => natural_Normalize.f k (sN W n)) (enc n) := norm_l n W hW hn
theorem normS_ev (s : ByteArray) (hs : s.size < 4611686018427387904) : Ev (fun k => natural_Normalize.f k s) (enc (sv s)) := by
  have := norm_ev hs (sv_lt s)
  rwa [← sN_sv s] at this

/-! parse -/
theorem tdiv4 (i : Nat) : Int.tdiv (i : Int) 4 = ((i / 4 : Nat) : Int) := by rw [Int.tdiv_eq_ediv_of_nonneg (by omega)]; omega
theorem tmod4 (i : Nat) : Int.tmod (i : Int) 4 = ((i % 4 : Nat) : Int) := by rw [Int.tmod_eq_emod_of_nonneg (by omega)]; omega
theorem P_split (i : Nat) : 256 ^ i = B ^ (i / 4) * 256 ^ (i % 4) := by
  rw [B_eq, ← Nat.pow_add]; congr 1; omega
theorem P_four {j : Nat} (h : j < 4) : 256 ^ j * 256 ≤ 4294967296 := by
  rw [← Nat.pow_succ]
  exact Nat.le_trans (Nat.pow_le_pow_right (by decide) (show j + 1 ≤ 4 by omega)) (by decide)
theorem low_dig {V i : Nat} : V % 256 ^ i / B ^ (i / 4) < 256 ^ (i % 4) := by
  rw [Nat.div_lt_iff_lt_mul (B_pos _), Nat.mul_comm, ← P_split]
  exact Nat.mod_lt _ (P_pos _)
theorem byte_or {lo by_ j : Nat} (hj : j < 4) (hlo : lo < 256 ^ j) (hb : by_ < 256) : lo ||| (by_ * 256 ^ j) = lo + by_ * 256 ^ j ∧ lo + by_ * 256 ^ j < 4294967296 := by
  have e : 256 ^ j = 2 ^ (8 * j) := by rw [Nat.pow_mul]
  have h4 := P_four hj
  constructor
  · rw [e] at hlo ⊢; exact or_add' hlo
  · calc lo + by_ * 256 ^ j < 256 ^ j + by_ * 256 ^ j := by omega
      _ = (by_ + 1) * 256 ^ j := by rw [Nat.add_mul, Nat.one_mul, Nat.add_comm]
      _ ≤ 256 * 256 ^ j := Nat.mul_le_mul_right _ (by omega)
      _ ≤ 4294967296 := by rw [Nat.mul_comm]; exact h4
theorem parse_set {L V i : Nat} (hL : i / 4 < L) :
    (digN L (V % 256 ^ i)).set (i / 4) (((V % 256 ^ i / B ^ (i / 4) % B + V / 256 ^ i % 256 * 256 ^ (i % 4) : Nat)) : Int) = digN L (V % 256 ^ (i + 1)) := by
  have hlo : V % 256 ^ i / B ^ (i / 4) < 256 ^ (i % 4) := low_dig
  have h4 := P_four (Nat.mod_lt i (show 0 < 4 by decide))
  have hlB : V % 256 ^ i / B ^ (i / 4) % B = V % 256 ^ i / B ^ (i / 4) := Nat.mod_eq_of_lt (by unfold B at *; omega)
  have hb := byte_or (Nat.mod_lt i (show 0 < 4 by decide)) hlo (Nat.mod_lt (V / 256 ^ i) (show 0 < 256 by decide))
  apply digN_set hL
  · rw [hlB]; exact hb.2
  · rw [modP_succ, P_split i]
    generalize V % (B ^ (i / 4) * 256 ^ (i % 4)) / B ^ (i / 4) % B = d
    generalize V / (B ^ (i / 4) * 256 ^ (i % 4)) % 256 = e
    rw [Nat.add_mul]
    have : e * (B ^ (i / 4) * 256 ^ (i % 4)) = e * 256 ^ (i % 4) * B ^ (i / 4) := by grind
    omega
theorem p_shl (e : Nat) (j : Nat) (hj : j < 4) (he : e < 256) : (((e : Nat) : Int) % 4294967296 * 2 ^ (((8 * j : Nat) : Int)).toNat) % 4294967296 = ((e * 256 ^ j : Nat) : Int) := by
  have h4 := P_four hj
  have hx : e * 256 ^ j < 4294967296 := by
    calc e * 256 ^ j < 256 * 256 ^ j := Nat.mul_lt_mul_of_pos_right he (P_pos j)
      _ ≤ 4294967296 := by rw [Nat.mul_comm]; exact h4
  have e1 : ((e : Nat) : Int) % 4294967296 = (e : Int) := by omega
  rw [Int.toNat_natCast, e1]
  have e2 : (e : Int) * 2 ^ (8 * j) = ((e * 256 ^ j : Nat) : Int) := by
    rw [show (256 : Nat) ^ j = 2 ^ (8 * j) by rw [Nat.pow_mul]]
    simp
  rw [e2]
  omega
theorem w_8 (j : Nat) (h : j < 4) : wrap64 (8 * ((j : Nat) : Int)) = ((8 * j : Nat) : Int) := by rw [i64n (by omega) (by omega)]; omega
theorem w_sub (a i : Nat) (h : i < a) (ha : a < 4611686018427387904) : wrap64 (wrap64 ((a : Int) - 1) - (i : Int)) = ((a - 1 - i : Nat) : Int) := by
  rw [i64n (a := (a : Int) - 1) (by omega) (by omega), i64n (by omega) (by omega)]; omega
theorem parse_l (s : ByteArray) (L : Nat) (hs : s.size ≤ 140737488355328) (hL : L = (s.size + 3) / 4) : ∀ d i, i + d = s.size → Ev (fun k => natural_parse.l0 k s (digN L (sv s % 256 ^ i)) (s.size : Int) (i : Int)) (dig (sv s))
  | 0, i, hi => by
    obtain rfl : i = s.size := by omega
    have hlt : sv s < B ^ L := by
      rw [B_eq]; exact Nat.lt_of_lt_of_le (sv_lt s) (Nat.pow_le_pow_right (by decide) (by omega))
    rw [Nat.mod_eq_of_lt (sv_lt s)]
    refine Ev.step (f := fun k => (natural_limbs_trim.f k (digN L (sv s))).bind fun t119 => (some t119)) (fun k => ?_) (Ev.bind (trim_ev (by omega) hlt) (Ev.now _))
    rw [natural_parse.l0, if_neg (by omega)]
  | d + 1, i, hi => by
    have h4 := Nat.mod_lt i (show 0 < 4 by decide)
    refine Ev.step (fun k => ?_) (parse_l s L hs hL d (i + 1) (by omega))
    have hlo : sv s % 256 ^ i / B ^ (i / 4) < 256 ^ (i % 4) := low_dig
    have hp4 := P_four h4
    have hlB : sv s % 256 ^ i / B ^ (i / 4) % B = sv s % 256 ^ i / B ^ (i / 4) := Nat.mod_eq_of_lt (by unfold B at *; omega)
    have hb := byte_or h4 hlo (Nat.mod_lt (sv s / 256 ^ i) (show 0 < 256 by decide))
    rw [natural_parse.l0, tdiv4, tmod4, w_nat (by omega), w_8 _ h4, w_sub _ _ (by omega) (by omega), w_succ (by omega), if_pos (by omega), if_pos (by omega), if_pos (by rw [length_digN]; omega), if_pos (by omega), if_pos (by omega), if_pos (by omega), if_pos (by omega),
      rd_digN (by omega), bt_sv (by omega), show s.size - 1 - (s.size - 1 - i) = i by omega, p_shl _ _ h4 (Nat.mod_lt _ (by decide)), hlB,
      or_u32 rfl rfl (by omega) (by omega), hb.1, Int.toNat_natCast]
    have := parse_set (L := L) (V := sv s) (i := i) (by omega)
    rw [hlB] at this
    rw [this]
theorem parse_ev (s : ByteArray) (hs : s.size ≤ 140737488355328) : Ev (fun k => natural_parse.f k s) (dig (sv s)) := by
  have hw : wrap64 (Int.tdiv (wrap64 (wrap64 ((s.size : Int) + 4) - 1)) 4) = (((s.size + 3) / 4 : Nat) : Int) := by
    rw [i64n (a := (s.size : Int) + 4) (by omega) (by omega), i64n (a := (s.size : Int) + 4 - 1) (by omega) (by omega), show (s.size : Int) + 4 - 1 = ((s.size + 3 : Nat) : Int) by omega, tdiv4, w_nat (by omega)]
  have := parse_l s _ hs rfl s.size 0 (by omega)
  refine Ev.congr (fun k => ?_) this
  rw [natural_parse.f, hw, if_pos (by omega), if_pos (by omega), Int.toNat_natCast, digN_zero, Nat.pow_zero, Nat.mod_one]
  rfl

/-! text -/
/-- What is written so far of a number's bytes, the last one first. -/
def byN (W n i : Nat) : List Int := (List.range W).map fun j => if W - 1 - j < i then ((n / 256 ^ (W - 1 - j) % 256 : Nat) : Int) else 0
@[simp] theorem length_byN (W n i : Nat) : (byN W n i).length = W := by simp [byN]
theorem byN_zero (W n : Nat) : byN W n 0 = List.replicate W 0 := by
  apply List.ext_getElem
  · simp
  · intro j h1 h2
    simp [byN]
theorem byN_set {W n i : Nat} (hi : i < W) : (byN W n i).set (W - 1 - i) ((n / 256 ^ i % 256 : Nat) : Int) = byN W n (i + 1) := by
  apply List.ext_getElem
  · simp
  · intro j h1 h2
    simp only [length_byN] at h2
    rw [List.getElem_set]
    simp only [byN, List.getElem_map, List.getElem_range]
    by_cases e : W - 1 - i = j
    · rw [if_pos e, show W - 1 - j = i by omega, if_pos (by omega)]
    · rw [if_neg e]
      by_cases h : W - 1 - j < i
      · rw [if_pos h, if_pos (by omega)]
      · rw [if_neg h, if_neg (by omega)]
theorem byN_full (W n : Nat) : strOfNums (byN W n W) = sN W n := by
  apply ByteArray.ext
  apply Array.toList_inj.1
  show ((byN W n W).map _ ) = beU W n
  apply List.ext_getElem
  · simp [beU]
  · intro j h1 h2
    simp only [beU, List.length_map, List.length_range] at h2
    simp only [byN, beU, List.getElem_map, List.getElem_range]
    rw [if_pos (by omega), Int.toNat_natCast]
theorem t_shr (n L i : Nat) (hi : i < 4 * L) : ((n / B ^ (i / 4) % B : Nat) : Int) / 2 ^ (((8 * (i % 4) : Nat) : Int)).toNat % 256 = ((n / 256 ^ i % 256 : Nat) : Int) := by
  have h4 := Nat.mod_lt i (show 0 < 4 by decide)
  rw [Int.toNat_natCast]
  have e : (2 : Int) ^ (8 * (i % 4)) = ((256 ^ (i % 4) : Nat) : Int) := by
    rw [show (256 : Nat) ^ (i % 4) = 2 ^ (8 * (i % 4)) by rw [Nat.pow_mul]]
    simp
  rw [e]
  have e2 : ((n / B ^ (i / 4) % B : Nat) : Int) / ((256 ^ (i % 4) : Nat) : Int) = ((n / B ^ (i / 4) % B / 256 ^ (i % 4) : Nat) : Int) := by simp
  rw [e2]
  have e3 : n / B ^ (i / 4) % B / 256 ^ (i % 4) % 256 = n / 256 ^ i % 256 := by
    have : B = 256 ^ (i % 4) * (256 * 256 ^ (3 - i % 4)) := by
      rw [← Nat.pow_succ', ← Nat.pow_add, show i % 4 + (3 - i % 4 + 1) = 4 by omega]; rfl
    rw [this, Nat.mod_mul_right_div_self, Nat.mod_mul_right_mod, ← this, Nat.div_div_eq_div_mul, ← P_split]
  rw [← e3]
  omega
theorem text_l (L n : Nat) (hL : L ≤ 35184372088832) (hn : n < B ^ L) : ∀ d i, i + d = 4 * L → Ev (fun k => natural_limbs_text.l0 k (digN L n) (byN (4 * L) n i) ((4 * L : Nat) : Int) (i : Int)) (enc n)
  | 0, i, hi => by
    obtain rfl : i = 4 * L := by omega
    refine Ev.step (f := fun k => (natural_Normalize.f k (sN (4 * L) n)).bind fun t118 => (some t118)) (fun k => ?_) (Ev.bind (norm_ev (by omega) (by rw [← B_eq]; exact hn)) (Ev.now _))
    rw [natural_limbs_text.l0, if_neg (by omega), byN_full]
  | d + 1, i, hi => by
    have h4 := Nat.mod_lt i (show 0 < 4 by decide)
    refine Ev.step (fun k => ?_) (text_l L n hL hn d (i + 1) (by omega))
    rw [natural_limbs_text.l0, length_byN, tdiv4, tmod4, w_nat (by omega), w_8 _ h4, w_sub _ _ (by omega) (by omega), w_succ (by omega), if_pos (by omega), if_pos (by omega), if_pos (by rw [length_digN]; omega), if_pos (by omega), if_pos (by omega), if_pos (by omega), if_pos (by omega),
      rd_digN (by omega), t_shr n L i (by omega), Int.toNat_natCast, byN_set (by omega)]
theorem text_ev {L n : Nat} (hL : L ≤ 35184372088832) (hn : n < B ^ L) : Ev (fun k => natural_limbs_text.f k (digN L n)) (enc n) := by
  have hw : wrap64 (((digN L n).length : Int) * 4) = ((4 * L : Nat) : Int) := by rw [length_digN, i64n (by omega) (by omega)]; omega
  have := text_l L n hL hn (4 * L) 0 (by omega)
  refine Ev.congr (fun k => ?_) this
  rw [natural_limbs_text.f, hw, if_pos (by omega), if_pos (by omega), Int.toNat_natCast]
  simp only [Option.bind_some]
  rw [byN_zero, List.length_replicate]
  rfl

/-! compare -/
def cmp (a b : Nat) : Int := if a < b then -1 else if a = b then 0 else 1
theorem cmp_l (m a b : Nat) (hm : m ≤ 70368744177664) : ∀ j, j ≤ m → a / B ^ j = b / B ^ j → Ev (fun k => natural_compare.l0 k (digN m a) (digN m b) ((j : Int) - 1)) (cmp a b)
  | 0, _, h => by
    have e : a = b := by simpa using h
    subst e
    refine Ev.step (f := fun _ => some 0) (fun k => ?_) (by rw [show cmp a a = 0 by simp [cmp]]; exact Ev.now _)
    rw [natural_compare.l0, if_neg (by omega)]
  | j + 1, hj, h => by
    have e : ((j + 1 : Nat) : Int) - 1 = (j : Int) := by omega
    rw [e]
    have ha := next (N := a) j
    have hb := next (N := b) j
    by_cases hd : a / B ^ j % B = b / B ^ j % B
    · have hw : wrap64 ((j : Int) - 1) = (j : Int) - 1 := i64n (by omega) (by omega)
      refine Ev.step (fun k => ?_) (cmp_l m a b hm j (by omega) (by rw [← ha, ← hb, h, hd]))
      rw [natural_compare.l0, hw, if_pos (by omega), if_pos (by omega), if_pos (by rw [length_digN]; omega), if_pos (by rw [length_digN]; omega), rd_digN (by omega), rd_digN (by omega), if_pos (by rw [hd])]
    · by_cases hl : a / B ^ j % B < b / B ^ j % B
      · have : a < b := by
          rcases Nat.lt_or_ge a b with h' | h'
          · exact h'
          · have := Nat.div_le_div_right (c := B ^ j) h'
            rw [h] at ha
            omega
        refine Ev.step (f := fun _ => some (-1)) (fun k => ?_) (by rw [show cmp a b = -1 by simp [cmp, this]]; exact Ev.now _)
        rw [natural_compare.l0, if_pos (by omega), if_pos (by omega), if_pos (by rw [length_digN]; omega), if_pos (by rw [length_digN]; omega), rd_digN (by omega), rd_digN (by omega), if_neg (by omega), if_pos (by omega)]
      · have : b < a := by
          rcases Nat.lt_or_ge b a with h' | h'
          · exact h'
          · have := Nat.div_le_div_right (c := B ^ j) h'
            rw [h] at ha
            omega
        refine Ev.step (f := fun _ => some 1) (fun k => ?_) (by rw [show cmp a b = 1 by unfold cmp; rw [if_neg (by omega), if_neg (by omega)]]; exact Ev.now _)
        rw [natural_compare.l0, if_pos (by omega), if_pos (by omega), if_pos (by rw [length_digN]; omega), if_pos (by rw [length_digN]; omega), rd_digN (by omega), rd_digN (by omega), if_neg (by omega), if_neg (by omega)]
theorem div_nl (a : Nat) : a / B ^ nl a = 0 := Nat.div_eq_of_lt (nl_lt a)
theorem compare_ev {a b : Nat} (ha : nl a ≤ 70368744177664) (hb : nl b ≤ 70368744177664) : Ev (fun k => natural_compare.f k (dig a) (dig b)) (cmp a b) := by
  by_cases h : nl a = nl b
  · have := cmp_l (nl a) a b ha (nl a) (Nat.le_refl _) (by rw [div_nl, h, div_nl])
    refine Ev.congr (fun k => ?_) this
    have hw : wrap64 ((nl a : Int) - 1) = (nl a : Int) - 1 := i64n (by omega) (by omega)
    rw [natural_compare.f, length_dig, length_dig, if_pos (by rw [h]), hw]
    simp only [dig, h]
  · have hw : wrap64 ((nl a : Int) - (nl b : Int)) = (nl a : Int) - (nl b : Int) := i64n (by omega) (by omega)
    refine Ev.congr (f := fun _ => some (cmp a b)) (fun k => ?_) (Ev.now _)
    rw [natural_compare.f, length_dig, length_dig, if_neg (by omega), hw, natural_sign.f]
    rcases Nat.lt_or_gt_of_ne h with h' | h'
    · rw [if_pos (by omega)]
      simp [cmp, lt_of_nl h']
    · rw [if_neg (by omega), if_pos (by omega)]
      have := lt_of_nl h'
      unfold cmp
      rw [if_neg (by omega), if_neg (by omega)]
      rfl

/-! divideSmall -/
theorem ds_or {r x : Nat} (hr : r < 4294967296) (hx : x < 4294967296) : Go.bits .or .u64 (IntKind.u64.wrap ((r : Int) * 4294967296)) (IntKind.u64.wrap (x : Int)) = ((r * 4294967296 + x : Nat) : Int) := by
  rw [u64n (by omega) (by omega), u64n (by omega) (by omega), or_u64 (n := r * 4294967296) (m := x) (by simp) rfl (by omega) (by omega), or_add (i := 32) hx]
theorem small_num {a d j : Nat} (hd : 0 < d) : (a / B ^ (j + 1) % d * B + a / B ^ j % B) / d + a / B ^ (j + 1) / d * B = a / B ^ j / d ∧ (a / B ^ (j + 1) % d * B + a / B ^ j % B) % d = a / B ^ j % d := by
  have h := next (N := a) j
  have h2 := Nat.div_add_mod (a / B ^ (j + 1)) d
  generalize a / B ^ (j + 1) = q at *
  generalize a / B ^ j % B = e at *
  generalize a / B ^ j = p at *
  have : p = (q % d * B + e) + d * (q / d * B) := by
    rw [← h]
    calc q * B + e = (d * (q / d) + q % d) * B + e := by rw [h2]
      _ = (q % d * B + e) + d * (q / d * B) := by grind
  rw [this]
  constructor
  · rw [Nat.add_mul_div_left _ _ hd]
  · rw [Nat.add_mul_mod_self_left]
theorem small_l (m a d : Nat) (hd : 0 < d) (hdB : d < 4294967296) (hm : m ≤ 70368744177664) (ha : a < B ^ m) : ∀ j, j ≤ m → Ev (fun k => natural_divideSmall.l0 k (digN m a) (d : Int) (digN m (a / B ^ j / d * B ^ j)) ((a / B ^ j % d : Nat) : Int) ((j : Int) - 1)) (dig (a / d), ((a % d : Nat) : Int))
  | 0, _ => by
    have e1 : a / B ^ 0 / d * B ^ 0 = a / d := by simp
    have e2 : a / B ^ 0 % d = a % d := by simp
    have hr := Nat.mod_lt a hd
    have hq : a / d < B ^ m := Nat.lt_of_le_of_lt (Nat.div_le_self _ _) ha
    rw [e1, e2]
    refine Ev.step (f := fun k => (natural_limbs_trim.f k (digN m (a / d))).bind fun t144 => (some (t144, ((a % d : Nat) : Int)))) (fun k => ?_) (Ev.bind (trim_ev hm hq) (Ev.now _))
    rw [natural_divideSmall.l0, if_neg (by omega), show ((a % d : Nat) : Int) % 4294967296 = ((a % d : Nat) : Int) by omega]
  | j + 1, hj => by
    have e : ((j + 1 : Nat) : Int) - 1 = (j : Int) := by omega
    have hr := Nat.mod_lt (a / B ^ (j + 1)) hd
    have hn := small_num (a := a) (j := j) hd
    have hx := dgt_lt' a j
    have hw : wrap64 ((j : Int) - 1) = (j : Int) - 1 := i64n (by omega) (by omega)
    have hd' : IntKind.u64.wrap (d : Int) = (d : Int) := u64n (by omega) (by omega)
    have hqt : (a / B ^ (j + 1) % d * 4294967296 + a / B ^ j % B) / d < 4294967296 := by
      rw [Nat.div_lt_iff_lt_mul hd]
      calc a / B ^ (j + 1) % d * 4294967296 + a / B ^ j % B < (a / B ^ (j + 1) % d + 1) * 4294967296 := by omega
        _ ≤ d * 4294967296 := Nat.mul_le_mul_right _ hr
        _ = 4294967296 * d := Nat.mul_comm _ _
    have hbig : a / B ^ (j + 1) % d * 4294967296 + a / B ^ j % B < 18446744073709551616 := by omega
    refine Ev.step (fun k => ?_) (small_l m a d hd hdB hm ha j (by omega))
    rw [e, natural_divideSmall.l0, hw, hd', if_pos (by omega), if_pos (by omega), if_pos (by rw [length_digN]; omega), if_neg (by omega), if_pos (by rw [length_digN]; omega), rd_digN (by omega), ds_or (by omega) hx]
    have hn1 : (a / B ^ (j + 1) % d * 4294967296 + a / B ^ j % B) / d + a / B ^ (j + 1) / d * B = a / B ^ j / d := hn.1
    have hn2 : (a / B ^ (j + 1) % d * 4294967296 + a / B ^ j % B) % d = a / B ^ j % d := hn.2
    rw [Int.tdiv_eq_ediv_of_nonneg (by omega), Int.tmod_eq_emod_of_nonneg (by omega), ← Int.natCast_ediv, ← Int.natCast_emod, hn2, Int.toNat_natCast]
    obtain ⟨Q, hQ⟩ : ∃ Q, (a / B ^ (j + 1) % d * 4294967296 + a / B ^ j % B) / d = Q := ⟨_, rfl⟩
    rw [hQ] at hqt hn1 ⊢
    have e3 : IntKind.u64.wrap (Q : Int) % 4294967296 = (Q : Int) := by
      rw [u64n (by omega) (by omega)]; omega
    rw [e3]
    have e4 : (digN m (a / B ^ (j + 1) / d * B ^ (j + 1))).set j (Q : Int) = digN m (a / B ^ j / d * B ^ j) := by
      apply digN_set (by omega) hqt
      have z : a / B ^ (j + 1) / d * B ^ (j + 1) / B ^ j % B = 0 := by
        rw [Nat.pow_succ, Nat.mul_comm (B ^ j) B, ← Nat.mul_assoc, Nat.mul_div_cancel _ (B_pos j), Nat.mul_mod_left]
      rw [z, Nat.zero_mul, Nat.add_zero, ← hn1, Nat.add_mul, Nat.pow_succ]
      grind
    rw [e4]
theorem divideSmall_ev {a d : Nat} (hd : 0 < d) (hdB : d < 4294967296) (ha : nl a ≤ 70368744177664) : Ev (fun k => natural_divideSmall.f k (dig a) (d : Int)) (dig (a / d), ((a % d : Nat) : Int)) := by
  have := small_l (nl a) a d hd hdB ha (nl_lt a) (nl a) (Nat.le_refl _)
  refine Ev.congr (fun k => ?_) this
  have hw : wrap64 ((nl a : Int) - 1) = (nl a : Int) - 1 := i64n (by omega) (by omega)
  rw [natural_divideSmall.f, length_dig, hw, if_pos (by omega), if_pos (by omega), Int.toNat_natCast, digN_zero, div_nl]
  simp only [Nat.zero_div, Nat.zero_mul, Nat.zero_mod, dig]
  rfl

/-! shift -/
theorem sh_num {a by_ i : Nat} : a % B ^ i * 2 ^ by_ + a / B ^ i % B * 2 ^ by_ * B ^ i = a % B ^ (i + 1) * 2 ^ by_ := by
  rw [mod_succ]; grind
theorem sh_lt {a by_ i : Nat} : a % B ^ i * 2 ^ by_ / B ^ i < 2 ^ by_ := by
  rw [Nat.div_lt_iff_lt_mul (B_pos i), Nat.mul_comm (2 ^ by_)]
  exact Nat.mul_lt_mul_of_pos_right (Nat.mod_lt _ (B_pos i)) (Nat.two_pow_pos _)
theorem two_le {b : Nat} (h : b < 32) : 2 ^ b ≤ 2147483648 := Nat.le_trans (Nat.pow_le_pow_right (by decide) (show b ≤ 31 by omega)) (by decide)
theorem sh_t {x by_ : Nat} (hx : x < 4294967296) (hb : by_ < 32) : IntKind.u64.wrap (IntKind.u64.wrap ((x : Nat) : Int) * 2 ^ ((by_ : Int)).toNat) = ((x * 2 ^ by_ : Nat) : Int) ∧ x * 2 ^ by_ < 18446744073709551616 := by
  have h2 := two_le hb
  have h3 : x * 2 ^ by_ ≤ 4294967295 * 2147483648 := Nat.mul_le_mul (by omega) h2
  rw [u64n (a := (x : Int)) (by omega) (by omega), Int.toNat_natCast]
  have e : (x : Int) * 2 ^ by_ = ((x * 2 ^ by_ : Nat) : Int) := by simp
  rw [e, u64n (by omega) (by omega)]
  exact ⟨rfl, by omega⟩
/-- The lower half of a shifted digit, laid over what was carried. -/
theorem sh_or {c t by_ : Nat} (hc : c < 2 ^ by_) (hb : by_ < 32) : Go.bits .or .u32 (c : Int) (((t * 2 ^ by_ : Nat) : Int) % 4294967296) = ((c + t * 2 ^ by_ % 4294967296 : Nat) : Int) ∧ c + t * 2 ^ by_ % 4294967296 < 4294967296 := by
  have h2 := two_le hb
  have hp : (4294967296 : Nat) = 2 ^ by_ * 2 ^ (32 - by_) := by rw [← Nat.pow_add, show by_ + (32 - by_) = 32 by omega]
  have e1 : t * 2 ^ by_ % 4294967296 = t % 2 ^ (32 - by_) * 2 ^ by_ := by
    rw [hp, Nat.mul_comm t, Nat.mul_mod_mul_left, Nat.mul_comm]
  have hlt : t * 2 ^ by_ % 4294967296 < 4294967296 := Nat.mod_lt _ (by decide)
  have e2 : ((t * 2 ^ by_ : Nat) : Int) % 4294967296 = ((t * 2 ^ by_ % 4294967296 : Nat) : Int) := by omega
  rw [e2, or_u32 rfl rfl (by omega) hlt, e1, or_add' hc, ← e1]
  refine ⟨rfl, ?_⟩
  rw [e1]
  calc c + t % 2 ^ (32 - by_) * 2 ^ by_ < 2 ^ by_ + t % 2 ^ (32 - by_) * 2 ^ by_ := by omega
    _ = (t % 2 ^ (32 - by_) + 1) * 2 ^ by_ := by rw [Nat.add_mul, Nat.one_mul, Nat.add_comm]
    _ ≤ 2 ^ (32 - by_) * 2 ^ by_ := Nat.mul_le_mul_right _ (Nat.mod_lt _ (Nat.two_pow_pos _))
    _ = 4294967296 := by rw [hp, Nat.mul_comm]
theorem shift_l (a by_ n m : Nat) (hb : by_ < 32) (hn : n ≤ 70368744177664) (hm : m ≤ n) (ha : a < B ^ m) (han : a * 2 ^ by_ < B ^ n) : ∀ d i, i + d = m →
    Ev (fun k => natural_shift.l0 k (by_ : Int) (n : Int) (digN n (a % B ^ i * 2 ^ by_)) (digN m a) (m : Int) (i : Int)) (digN n (a * 2 ^ by_))
  | 0, i, hi => by
    obtain rfl : i = m := by omega
    rw [Nat.mod_eq_of_lt ha]
    refine Ev.step (f := fun _ => some (digN n (a * 2 ^ by_))) (fun k => ?_) (Ev.now _)
    rw [natural_shift.l0, if_neg (by omega)]
  | d + 1, i, hi => by
    have hx := dgt_lt' a i
    have hlt : a % B ^ i * 2 ^ by_ / B ^ i < 2 ^ by_ := sh_lt
    have h2 := two_le hb
    have hc : a % B ^ i * 2 ^ by_ / B ^ i % B = a % B ^ i * 2 ^ by_ / B ^ i := Nat.mod_eq_of_lt (by unfold B at *; omega)
    have ht := sh_t hx hb
    have ho := sh_or (t := a / B ^ i % B) hlt hb
    have hnum := sh_num (a := a) (by_ := by_) (i := i)
    refine Ev.step (fun k => ?_) (shift_l a by_ n m hb hn hm ha han d (i + 1) (by omega))
    rw [natural_shift.l0, if_pos (by omega), if_pos (by omega), if_pos (by rw [length_digN]; omega), if_pos (by omega), if_pos (by omega), if_pos (by rw [length_digN]; omega), rd_digN (by omega), rd_digN (by omega), hc, ht.1, ho.1, Int.toNat_natCast, w_succ (by omega)]
    simp only [Option.bind_some]
    obtain ⟨t, ht0⟩ : ∃ t, a / B ^ i % B * 2 ^ by_ = t := ⟨_, rfl⟩
    rw [ht0] at ht ho hnum ⊢
    obtain ⟨c, hc0⟩ : ∃ c, a % B ^ i * 2 ^ by_ / B ^ i = c := ⟨_, rfl⟩
    rw [hc0] at hc ho ⊢
    have hlo : a % B ^ i * 2 ^ by_ + t % 4294967296 * B ^ i < B ^ (i + 1) := by
      have h := Nat.div_add_mod (a % B ^ i * 2 ^ by_) (B ^ i)
      rw [hc0] at h
      have h3 := Nat.mod_lt (a % B ^ i * 2 ^ by_) (B_pos i)
      have h4 : (c + t % 4294967296 + 1) * B ^ i ≤ B * B ^ i := Nat.mul_le_mul_right _ ho.2
      rw [Nat.pow_succ, Nat.mul_comm (B ^ i) B]
      rw [Nat.add_mul, Nat.add_mul, Nat.one_mul] at h4
      rw [Nat.mul_comm] at h
      omega
    have hset : (digN n (a % B ^ i * 2 ^ by_)).set i ((c + t % 4294967296 : Nat) : Int) = digN n (a % B ^ i * 2 ^ by_ + t % 4294967296 * B ^ i) := by
      apply digN_set (by omega) ho.2
      rw [hc0, hc, Nat.add_mul]; omega
    rw [hset]
    have htB := Nat.div_add_mod t 4294967296
    have htot : a % B ^ i * 2 ^ by_ + t % 4294967296 * B ^ i + t / 4294967296 * B ^ (i + 1) = a % B ^ (i + 1) * 2 ^ by_ := by
      rw [← hnum, Nat.pow_succ]
      have : t * B ^ i = t % 4294967296 * B ^ i + t / 4294967296 * (B ^ i * B) := by
        have e : t = t % B + B * (t / B) := by unfold B; omega
        conv => lhs; rw [e]
        unfold B; grind
      omega
    by_cases hin : i + 1 < n
    · have hthi : t / 4294967296 < 4294967296 := by omega
      rw [if_pos (by omega), if_pos (by omega), if_pos (by rw [length_digN]; omega), rd_digN (by omega), Nat.div_eq_of_lt hlo, Nat.zero_mod]
      have e5 : ((t : Nat) : Int) / 4294967296 % 4294967296 = ((t / 4294967296 : Nat) : Int) := by omega
      rw [e5, or_u32 rfl rfl (by decide) hthi, Nat.zero_or, Int.toNat_natCast, digN_put (by omega) hthi hlo, htot]
    · obtain rfl : n = i + 1 := by omega
      rw [if_neg (by omega)]
      have h0 : t / 4294967296 = 0 := by
        rcases Nat.eq_zero_or_pos (t / 4294967296) with h | h
        · exact h
        · exfalso
          have h1 : B ^ (i + 1) ≤ t / 4294967296 * B ^ (i + 1) := Nat.le_mul_of_pos_left _ h
          have h2 : a % B ^ (i + 1) * 2 ^ by_ ≤ a * 2 ^ by_ := Nat.mul_le_mul_right _ (Nat.mod_le _ _)
          omega
      rw [h0, Nat.zero_mul, Nat.add_zero] at htot
      rw [htot]
theorem shift_ev {a by_ n : Nat} (hb : by_ < 32) (hn : n ≤ 70368744177664) (hm : nl a ≤ n) (han : a * 2 ^ by_ < B ^ n) : Ev (fun k => natural_shift.f k (dig a) (by_ : Int) (n : Int)) (digN n (a * 2 ^ by_)) := by
  have := shift_l a by_ n (nl a) hb hn hm (nl_lt a) han (nl a) 0 (by omega)
  refine Ev.congr (fun k => ?_) this
  rw [natural_shift.f, length_dig, if_pos (by omega), if_pos (by omega), Int.toNat_natCast, digN_zero, Nat.pow_zero, Nat.mod_one, Nat.zero_mul]
  rfl

/-! unshift -/
theorem un_or {x y : Nat} (hx : x < 4294967296) (hy : y < 4294967296) : Go.bits .or .u64 (IntKind.u64.wrap (x : Int)) (IntKind.u64.wrap (IntKind.u64.wrap (y : Int) * 4294967296)) = ((y * 4294967296 + x : Nat) : Int) := by
  rw [u64n (a := (x : Int)) (by omega) (by omega), u64n (a := (y : Int)) (by omega) (by omega), u64n (by omega) (by omega), or_u64 (n := x) (m := y * 4294967296) rfl (by simp) (by omega) (by omega), or_add' (i := 32) hx, Nat.add_comm]
theorem un_num {x by_ i : Nat} (hb : by_ ≤ 32) : (x / B ^ (i + 1) % B * B + x / B ^ i % B) / 2 ^ by_ % B = x / 2 ^ by_ / B ^ i % B := by
  have h := next (N := x) i
  have h1 := Nat.div_add_mod (x / B ^ (i + 1)) B
  have e0 : x / 2 ^ by_ / B ^ i = x / B ^ i / 2 ^ by_ := by rw [Nat.div_div_eq_div_mul, Nat.mul_comm (2 ^ by_), ← Nat.div_div_eq_div_mul]
  rw [e0]
  generalize x / B ^ (i + 1) = q at *
  generalize x / B ^ i % B = e at *
  generalize x / B ^ i = p at *
  have hp : B = 2 ^ by_ * 2 ^ (32 - by_) := by rw [← Nat.pow_add, show by_ + (32 - by_) = 32 by omega]; rfl
  have : p = (q % B * B + e) + 2 ^ by_ * (q / B * 2 ^ (32 - by_) * B) := by
    rw [← h]
    have e1 : q * B = (B * (q / B) + q % B) * B := by rw [h1]
    have e2 : B * (q / B) * B = 2 ^ by_ * (q / B * 2 ^ (32 - by_) * B) := by
      generalize hC : B * (q / B) * B = C
      rw [← hC]
      calc B * (q / B) * B = (2 ^ by_ * 2 ^ (32 - by_)) * (q / B) * B := by rw [← hp]
        _ = 2 ^ by_ * (q / B * 2 ^ (32 - by_) * B) := by grind
    rw [Nat.add_mul] at e1
    omega
  rw [this, Nat.add_mul_div_left _ _ (Nat.two_pow_pos _), Nat.add_mul_mod_self_right]
theorem un_last {x by_ i : Nat} (hx : x < B ^ (i + 1)) : x / B ^ i % B / 2 ^ by_ % B = x / 2 ^ by_ / B ^ i % B := by
  have h : x / B ^ i < B := by rw [Nat.div_lt_iff_lt_mul (B_pos _), Nat.mul_comm, ← Nat.pow_succ]; exact hx
  rw [Nat.mod_eq_of_lt h, Nat.div_div_eq_div_mul, Nat.div_div_eq_div_mul, Nat.mul_comm]
theorem shr_nat {t by_ : Nat} (hb : by_ < 32) : ((t : Nat) : Int) / 2 ^ ((by_ : Int)).toNat % 4294967296 = ((t / 2 ^ by_ % B : Nat) : Int) := by
  rw [Int.toNat_natCast]
  have e : (t : Int) / 2 ^ by_ = ((t / 2 ^ by_ : Nat) : Int) := by simp
  rw [e]
  unfold B
  omega
theorem unshift_l (x by_ m : Nat) (hb : by_ < 32) (hm : m ≤ 70368744177664) (hx : x < B ^ m) : ∀ d i, i + d = m →
    Ev (fun k => natural_unshift.l0 k (digN m x) (by_ : Int) (digN m (x / 2 ^ by_ % B ^ i)) (m : Int) (i : Int)) (dig (x / 2 ^ by_))
  | 0, i, hi => by
    obtain rfl : i = m := by omega
    have hlt : x / 2 ^ by_ < B ^ i := Nat.lt_of_le_of_lt (Nat.div_le_self _ _) hx
    rw [Nat.mod_eq_of_lt hlt]
    refine Ev.step (f := fun k => (natural_limbs_trim.f k (digN i (x / 2 ^ by_))).bind fun t186 => (some t186)) (fun k => ?_) (Ev.bind (trim_ev hm hlt) (Ev.now _))
    rw [natural_unshift.l0, if_neg (by omega)]
  | d + 1, i, hi => by
    have hset : (digN m (x / 2 ^ by_ % B ^ i)).set i ((x / 2 ^ by_ / B ^ i % B : Nat) : Int) = digN m (x / 2 ^ by_ % B ^ (i + 1)) := by
      rw [digN_put (by omega) (dgt_lt _ _) (Nat.mod_lt _ (B_pos i)), mod_succ]
    refine Ev.step (fun k => ?_) (unshift_l x by_ m hb hm hx d (i + 1) (by omega))
    have h1 := dgt_lt' x i
    by_cases hl : i + 1 < m
    · have h2 := dgt_lt' x (i + 1)
      have hn := un_num (x := x) (by_ := by_) (i := i) (by omega)
      rw [natural_unshift.l0, w_succ (by omega), length_digN, length_digN, if_pos (by omega), if_pos (by omega), if_pos (by omega), if_pos (by omega), if_pos (by omega), if_pos (by omega), if_pos (by omega), if_pos (by omega), rd_digN (by omega), rd_digN (by omega), un_or h1 h2, shr_nat hb, Int.toNat_natCast]
      have : (x / B ^ (i + 1) % B * 4294967296 + x / B ^ i % B) / 2 ^ by_ % B = x / 2 ^ by_ / B ^ i % B := hn
      rw [this, hset]
    · obtain rfl : m = i + 1 := by omega
      rw [natural_unshift.l0, w_succ (by omega), length_digN, length_digN, if_pos (by omega), if_pos (by omega), if_pos (by omega), if_neg (by omega), if_pos (by omega), if_pos (by omega), if_pos (by omega), rd_digN (by omega), u64n (by omega) (by omega), shr_nat hb, Int.toNat_natCast, un_last hx, hset]
theorem unshift_ev {x by_ m : Nat} (hb : by_ < 32) (hm : m ≤ 70368744177664) (hx : x < B ^ m) : Ev (fun k => natural_unshift.f k (digN m x) (by_ : Int)) (dig (x / 2 ^ by_)) := by
  have := unshift_l x by_ m hb hm hx m 0 (by omega)
  refine Ev.congr (fun k => ?_) this
  rw [natural_unshift.f, length_digN, if_pos (by omega), if_pos (by omega), Int.toNat_natCast, digN_zero, Nat.pow_zero, Nat.mod_one]
  rfl

/-! Add -/
theorem add32 {x y c : Nat} (hx : x < 4294967296) (hy : y < 4294967296) (hc : c ≤ 1) : bits_Add32.f (x : Int) (y : Int) (c : Int) = some ((((x + y + c) % B : Nat) : Int), (((x + y + c) / B : Nat) : Int)) := by
  unfold bits_Add32.f B
  simp only [u64m]
  congr 2
  · omega
  · omega
theorem add_num {x y c M i : Nat} (h : M + c * B ^ i = x % B ^ i + y % B ^ i) : M + (x / B ^ i % B + y / B ^ i % B + c) % B * B ^ i + (x / B ^ i % B + y / B ^ i % B + c) / B * B ^ (i + 1) = x % B ^ (i + 1) + y % B ^ (i + 1) := by
  rw [mod_succ, mod_succ, Nat.pow_succ]
  have h2 := Nat.div_add_mod (x / B ^ i % B + y / B ^ i % B + c) B
  generalize x / B ^ i % B = p at *
  generalize y / B ^ i % B = q at *
  generalize (p + q + c) / B = s at *
  generalize (p + q + c) % B = r at *
  generalize B ^ i = P at *
  have : r * P + s * (P * B) = p * P + q * P + c * P := by
    calc r * P + s * (P * B) = (B * s + r) * P := by grind
      _ = (p + q + c) * P := by rw [h2]
      _ = p * P + q * P + c * P := by rw [Nat.add_mul, Nat.add_mul]
  omega
theorem put_lt {M r i : Nat} (hM : M < B ^ i) (hr : r < B) : M + r * B ^ i < B ^ (i + 1) := by
  rw [Nat.add_comm]; exact low_lt hr hM
theorem dgt_zero {y m i : Nat} (hy : y < B ^ m) (h : m ≤ i) : y / B ^ i % B = 0 := by
  rw [Nat.div_eq_of_lt (Nat.lt_of_lt_of_le hy (Nat.pow_le_pow_right B0 h))]; rfl
theorem add_l (x y : Nat) (hx : nl x ≤ 35184372088000) (hy : nl y ≤ nl x) : ∀ d i M c, i + d = nl x → c ≤ 1 → M < B ^ i → M + c * B ^ i = x % B ^ i + y % B ^ i →
    Ev (fun k => natural_Add.l0 k (dig x) (dig y) (digN (nl x + 1) M) (c : Int) (nl x : Int) (i : Int)) (enc (x + y))
  | 0, i, M, c, hi, hc, hM, h => by
    obtain rfl : i = nl x := by omega
    have hyl : y < B ^ nl x := Nat.lt_of_lt_of_le (nl_lt y) (Nat.pow_le_pow_right B0 hy)
    rw [Nat.mod_eq_of_lt (nl_lt x), Nat.mod_eq_of_lt hyl] at h
    have hcB : c < B := by unfold B; omega
    have hlt : x + y < B ^ (nl x + 1) := by rw [← h]; exact put_lt hM hcB
    refine Ev.step (f := fun k => (natural_limbs_text.f k (digN (nl x + 1) (x + y))).bind fun t285 => (some t285)) (fun k => ?_) (Ev.bind (text_ev (by omega) hlt) (Ev.now _))
    rw [natural_Add.l0]
    simp only [length_dig, length_digN]
    rw [if_neg (by omega), if_pos (by omega), if_pos (by omega), Int.toNat_natCast, digN_put (by omega) hcB hM, h]
  | d + 1, i, M, c, hi, hc, hM, h => by
    have hx1 := dgt_lt' x i
    have hr : (x / B ^ i % B + y / B ^ i % B + c) % B < B := Nat.mod_lt _ B0
    have hs : (x / B ^ i % B + y / B ^ i % B + c) / B ≤ 1 := by
      have := dgt_lt x i
      have := dgt_lt y i
      unfold B at *
      omega
    refine Ev.step (fun k => ?_) (add_l x y hx hy d (i + 1) (M + (x / B ^ i % B + y / B ^ i % B + c) % B * B ^ i) _ (by omega) hs (put_lt hM hr) (add_num h))
    rw [natural_Add.l0, length_dig, length_dig, length_digN, w_succ (by omega), if_pos (by omega)]
    by_cases hl : i < nl y
    · rw [if_pos (by omega), if_pos (by omega), if_pos (by omega), rd_dig (by omega), rd_dig hl, add32 hx1 (dgt_lt' y i) hc]
      simp only [Option.bind_some]
      rw [if_pos (by omega), Int.toNat_natCast, digN_put (by omega) hr hM]
    · have hz := dgt_zero (nl_lt y) (show nl y ≤ i by omega)
      rw [hz] at hr ⊢
      rw [if_neg (by omega), if_pos (by omega), if_pos (by omega), rd_dig (by omega), show (0 : Int) = ((0 : Nat) : Int) from rfl, add32 hx1 (by decide) hc]
      simp only [Option.bind_some]
      rw [if_pos (by omega), Int.toNat_natCast, digN_put (by omega) hr hM]
theorem add_j {x y : Nat} (hx : nl x ≤ 35184372088000) (hy : nl y ≤ nl x) : Ev (fun k => natural_Add.j0 k (dig x) (dig y)) (enc (x + y)) := by
  have hw : wrap64 ((nl x : Int) + 1) = ((nl x + 1 : Nat) : Int) := w_succ (by omega)
  refine Ev.step (fun k => ?_) (add_l x y hx hy (nl x) 0 0 0 (by omega) (by omega) (by simp) (by simp [Nat.mod_one]))
  rw [natural_Add.j0, length_dig, hw, if_pos (by omega), if_pos (by omega), Int.toNat_natCast, digN_zero]
  rfl
theorem add_ev {a b : ByteArray} (ha : a.size ≤ 70368744177664) (hb : b.size ≤ 70368744177664) : Ev (fun k => natural_Add.f k a b) (enc (sv a + sv b)) := by
  have h1 := nl_le_nb (sv a)
  have h2 := nb_sv a
  have h3 := nl_le_nb (sv b)
  have h4 := nb_sv b
  refine Ev.bind (parse_ev a (by omega)) (Ev.bind (parse_ev b (by omega)) ?_)
  simp only [length_dig]
  by_cases h : nl (sv a) < nl (sv b)
  · have := add_j (x := sv b) (y := sv a) (by omega) (by omega)
    rw [Nat.add_comm]
    refine Ev.congr (fun k => ?_) this
    rw [if_pos (by omega)]
  · refine Ev.congr (fun k => ?_) (add_j (x := sv a) (y := sv b) (by omega) (by omega))
    rw [if_neg (by omega)]

/-! subtract -/
theorem sub32 {x y c : Nat} (hx : x < 4294967296) (hy : y < 4294967296) (hc : c ≤ 1) : bits_Sub32.f (x : Int) (y : Int) (c : Int) = some ((((x + B - y - c) % B : Nat) : Int), (((if x < y + c then 1 else 0 : Nat) : Nat) : Int)) := by
  unfold bits_Sub32.f sbor B
  rw [if_pos (by omega)]
  by_cases h : x < y + c
  · rw [if_pos h, if_pos (by omega)]
    congr 2
    omega
  · rw [if_neg h, if_neg (by omega)]
    congr 2
    omega
theorem sub_num {x y c M i : Nat} (hc : c ≤ 1) (h : M + y % B ^ i = x % B ^ i + c * B ^ i) : M + (x / B ^ i % B + B - y / B ^ i % B - c) % B * B ^ i + y % B ^ (i + 1) = x % B ^ (i + 1) + (if x / B ^ i % B < y / B ^ i % B + c then 1 else 0) * B ^ (i + 1) := by
  rw [mod_succ, mod_succ, Nat.pow_succ]
  have hp := dgt_lt x i
  have hq := dgt_lt y i
  generalize x / B ^ i % B = p at *
  generalize y / B ^ i % B = q at *
  generalize B ^ i = P at *
  have h2 : (p + B - q - c) % B + q + c = p + (if p < q + c then 1 else 0) * B := by
    unfold B at *
    split <;> omega
  generalize (p + B - q - c) % B = r at *
  generalize (if p < q + c then 1 else 0) = s at *
  have : r * P + q * P + c * P = p * P + s * (P * B) := by
    calc r * P + q * P + c * P = (r + q + c) * P := by rw [Nat.add_mul, Nat.add_mul]
      _ = (p + s * B) * P := by rw [h2]
      _ = p * P + s * (P * B) := by grind
  omega
theorem subtract_l (x y : Nat) (hx : nl x ≤ 35184372088000) (hy : y ≤ x) : ∀ d i M c, i + d = nl x → c ≤ 1 → M < B ^ i → M + y % B ^ i = x % B ^ i + c * B ^ i →
    Ev (fun k => natural_subtract.l0 k (dig x) (dig y) (digN (nl x) M) (c : Int) (nl x : Int) (i : Int)) (dig (x - y))
  | 0, i, M, c, hi, hc, hM, h => by
    obtain rfl : i = nl x := by omega
    have hyl : y < B ^ nl x := Nat.lt_of_le_of_lt hy (nl_lt x)
    rw [Nat.mod_eq_of_lt (nl_lt x), Nat.mod_eq_of_lt hyl] at h
    have hc0 : c = 0 := by
      rcases Nat.eq_zero_or_pos c with h' | h'
      · exact h'
      · obtain rfl : c = 1 := by omega
        omega
    subst hc0
    obtain rfl : M = x - y := by omega
    refine Ev.step (f := fun k => (natural_limbs_trim.f k (digN (nl x) (x - y))).bind fun t298 => (some t298)) (fun k => ?_) (Ev.bind (trim_ev (by omega) hM) (Ev.now _))
    rw [natural_subtract.l0, if_neg (by omega)]
  | d + 1, i, M, c, hi, hc, hM, h => by
    have hx1 := dgt_lt' x i
    have hr : (x / B ^ i % B + B - y / B ^ i % B - c) % B < B := Nat.mod_lt _ B0
    refine Ev.step (fun k => ?_) (subtract_l x y hx hy d (i + 1) (M + (x / B ^ i % B + B - y / B ^ i % B - c) % B * B ^ i) _ (by omega) (by split <;> omega) (put_lt hM hr) (sub_num hc h))
    rw [natural_subtract.l0, length_dig, length_dig, length_digN, w_succ (by omega), if_pos (by omega)]
    by_cases hl : i < nl y
    · rw [if_pos (by omega), if_pos (by omega), if_pos (by omega), rd_dig (by omega), rd_dig hl, sub32 hx1 (dgt_lt' y i) hc]
      simp only [Option.bind_some]
      rw [if_pos (by omega), Int.toNat_natCast, digN_put (by omega) hr hM]
    · have hz := dgt_zero (nl_lt y) (show nl y ≤ i by omega)
      rw [hz] at hr ⊢
      rw [if_neg (by omega), if_pos (by omega), if_pos (by omega), rd_dig (by omega), show (0 : Int) = ((0 : Nat) : Int) from rfl, sub32 hx1 (by decide) hc]
      simp only [Option.bind_some]
      rw [if_pos (by omega), Int.toNat_natCast, digN_put (by omega) hr hM]
theorem subtractL_ev {x y : Nat} (hx : nl x ≤ 35184372088000) (hy : y ≤ x) : Ev (fun k => natural_subtract.f k (dig x) (dig y)) (dig (x - y)) := by
  refine Ev.congr (fun k => ?_) (subtract_l x y hx hy (nl x) 0 0 0 (by omega) (by omega) (by simp) (by simp [Nat.mod_one]))
  rw [natural_subtract.f, length_dig, if_pos (by omega), if_pos (by omega), Int.toNat_natCast, digN_zero]
  rfl
theorem text_dig {n : Nat} (h : nl n ≤ 35184372088832) : Ev (fun k => natural_limbs_text.f k (dig n)) (enc n) := text_ev h (nl_lt n)
theorem sub_ev {a b : ByteArray} (ha : a.size ≤ 70368744177664) (hb : b.size ≤ 70368744177664) : Ev (fun k => natural_Subtract.f k a b) (if sv a < sv b then (ByteArray.empty, false) else (enc (sv a - sv b), true)) := by
  have h1 := nl_le_nb (sv a)
  have h2 := nb_sv a
  have h3 := nl_le_nb (sv b)
  have h4 := nb_sv b
  refine Ev.bind (parse_ev a (by omega)) (Ev.bind (parse_ev b (by omega)) (Ev.bind (compare_ev (by omega) (by omega)) ?_))
  by_cases h : sv a < sv b
  · rw [if_pos h]
    refine Ev.congr (fun k => ?_) (Ev.now _)
    rw [if_pos (by simp [cmp, h])]
    rfl
  · rw [if_neg h]
    have hc : ¬ cmp (sv a) (sv b) < 0 := by unfold cmp; rw [if_neg h]; split <;> omega
    have hm := nl_mono (show sv a - sv b ≤ sv a by omega)
    refine Ev.congr (f := fun k => (natural_subtract.f k (dig (sv a)) (dig (sv b))).bind fun t1 => (natural_limbs_text.f k t1).bind fun t2 => some (t2, true)) (fun k => ?_) (Ev.bind (subtractL_ev (x := sv a) (y := sv b) (by omega) (by omega)) (Ev.bind (text_dig (n := sv a - sv b) (by omega)) (Ev.now _)))
    rw [if_neg hc]

/-! Multiply -/
theorem mul_t {u v d c : Nat} (hu : u < 4294967296) (hv : v < 4294967296) (hd : d < 4294967296) (hc : c < 4294967296) : u * v + d + c < 18446744073709551616 := by
  have : u * v ≤ 4294967295 * 4294967295 := Nat.mul_le_mul (by omega) (by omega)
  omega
theorem mul_w {u v d c : Nat} (hu : u < 4294967296) (hv : v < 4294967296) (hd : d < 4294967296) (hc : c < 4294967296) :
    IntKind.u64.wrap (IntKind.u64.wrap (IntKind.u64.wrap (IntKind.u64.wrap (u : Int) * IntKind.u64.wrap (v : Int)) + IntKind.u64.wrap (d : Int)) + (c : Int)) = ((u * v + d + c : Nat) : Int) := by
  have h := mul_t hu hv hd hc
  have e : (u : Int) * (v : Int) = ((u * v : Nat) : Int) := by simp
  rw [u64n (a := (u : Int)) (by omega) (by omega), u64n (a := (v : Int)) (by omega) (by omega), u64n (a := (d : Int)) (by omega) (by omega), e]
  generalize u * v = p at *
  rw [u64n (a := (p : Int)) (by omega) (by omega), u64n (a := (p : Int) + (d : Int)) (by omega) (by omega), u64n (by omega) (by omega)]
  omega
/-- A step of the inner loop. -/
theorem mul_num {M M' X y u c d i k : Nat} (hM : M + c * B ^ (i + k) = X + u * (y % B ^ k) * B ^ i) (hd : M / B ^ (i + k) % B = d)
    (hm : M' + d * B ^ (i + k) = M + (u * (y / B ^ k % B) + d + c) % B * B ^ (i + k)) :
    M' + (u * (y / B ^ k % B) + d + c) / B * B ^ (i + (k + 1)) = X + u * (y % B ^ (k + 1)) * B ^ i := by
  rw [mod_succ, ← Nat.add_assoc i k 1, Nat.pow_succ B (i + k)]
  have e : u * (y % B ^ k + y / B ^ k % B * B ^ k) * B ^ i = u * (y % B ^ k) * B ^ i + u * (y / B ^ k % B) * B ^ (i + k) := by rw [powadd]; grind
  rw [e]
  have h2 := Nat.div_add_mod (u * (y / B ^ k % B) + d + c) B
  generalize u * (y % B ^ k) * B ^ i = Z at *
  generalize u * (y / B ^ k % B) = w at *
  generalize (w + d + c) / B = s at *
  generalize (w + d + c) % B = r at *
  generalize B ^ (i + k) = P at *
  have : r * P + s * (P * B) = w * P + d * P + c * P := by
    calc r * P + s * (P * B) = (B * s + r) * P := by grind
      _ = (w + d + c) * P := by rw [h2]
      _ = w * P + d * P + c * P := by rw [Nat.add_mul, Nat.add_mul]
  omega
theorem mul_q {t : Nat} (h : t < 18446744073709551616) : t / B < 4294967296 := by unfold B; omega
theorem mul_m (t : Nat) : (t : Int) % 4294967296 = ((t % B : Nat) : Int) := by unfold B; omega
theorem mul_d (t : Nat) : (t : Int) / 4294967296 = ((t / B : Nat) : Int) := by unfold B; omega
theorem mul_row (x y i : Nat) : x % B ^ i * y + x / B ^ i % B * y * B ^ i = x % B ^ (i + 1) * y := by rw [mod_succ]; grind
theorem multiply_i (x y i : Nat) (r : ByteArray) (hx : nl x ≤ 17592186044416) (hy : nl y ≤ 17592186044416) (hi : i < nl x)
    (hnext : Ev (fun k => natural_Multiply.l0 k (dig y) (digN (nl x + nl y) (x % B ^ (i + 1) * y)) (dig x) (nl x : Int) ((i + 1 : Nat) : Int)) r) : ∀ f k M c, k + f = nl y → c < 4294967296 → Aside0 (M < B ^ (i + nl y) ∧ M + c * B ^ (i + k) = x % B ^ i * y + x / B ^ i % B * (y % B ^ k) * B ^ i) →
      Ev (fun n => natural_Multiply.l1 n (dig y) (digN (nl x + nl y) M) (i : Int) ((x / B ^ i % B : Nat) : Int) (c : Int) (dig x) (nl x : Int) (i : Int) (dig y) (nl y : Int) (k : Int)) r
  | 0, k, M, c, hk, hc, h => by
    obtain rfl : k = nl y := by omega
    have hw : wrap64 ((i : Int) + (nl y : Int)) = ((i + nl y : Nat) : Int) := by rw [i64n (by omega) (by omega)]; omega
    have hcc : (c : Int) % 4294967296 = (c : Int) := by omega
    have c5 : i + nl y < nl x + nl y := by omega
    refine Ev.step (fun n => ?_) hnext
    rw [natural_Multiply.l1]
    simp only [length_dig, length_digN]
    rw [if_neg (by omega), hw, if_pos (by omega), if_pos (by omega), Int.toNat_natCast, w_succ (by omega), hcc]
    obtain ⟨hM, h⟩ := h.out
    rw [Nat.mod_eq_of_lt (nl_lt y), mul_row] at h
    rw [digN_put c5 hc hM, h]
  | f + 1, k, M, c, hk, hc, h => by
    have c1 : (k : Int) < (nl y : Int) := by omega
    have c2 : 0 ≤ (k : Int) := by omega
    have c3 : 0 ≤ ((i + k : Nat) : Int) := by omega
    have c4 : ((i + k : Nat) : Int) < ((nl x + nl y : Nat) : Int) := by omega
    have c5 : i + k < nl x + nl y := by omega
    have c6 : k < nl y := by omega
    have c7 : k + 1 + f = nl y := by omega
    have c8 : wrap64 ((k : Int) + 1) = ((k + 1 : Nat) : Int) := w_succ (by omega)
    have c9 : i + nl y = i + k + 1 + f := by omega
    have hw : wrap64 ((i : Int) + (k : Int)) = ((i + k : Nat) : Int) := by rw [i64n (by omega) (by omega)]; omega
    obtain ⟨hM, h⟩ := h.out
    have hu := dgt_lt' x i
    have hv := dgt_lt' y k
    obtain ⟨d, hd⟩ : ∃ d, M / B ^ (i + k) % B = d := ⟨_, rfl⟩
    have hdB : d < 4294967296 := by rw [← hd]; exact dgt_lt' _ _
    have ht := mul_t hu hv hdB hc
    obtain ⟨M', hM'⟩ := put_ex M (i + k) ((x / B ^ i % B * (y / B ^ k % B) + d + c) % B)
    have hr : (x / B ^ i % B * (y / B ^ k % B) + d + c) % B < B := Nat.mod_lt _ B0
    have hset := digN_set (L := nl x + nl y) c5 hr hM'
    have hhi := hi_of B0 hr hM'
    rw [hd] at hM'
    have hM'lt : M' < B ^ (i + nl y) := by
      have h1 : M' / B ^ (i + nl y) = M / B ^ (i + nl y) := by
        rw [c9, powadd (i + k + 1) f, ← Nat.div_div_eq_div_mul, hhi, Nat.div_div_eq_div_mul]
      apply lt_of_hi
      rw [h1]
      exact Nat.div_eq_of_lt hM
    refine Ev.step (fun n => ?_) (multiply_i x y i r hx hy hi hnext f (k + 1) M' _ c7 (mul_q ht) ⟨hM'lt, mul_num h hd hM'⟩)
    rw [natural_Multiply.l1]
    simp only [length_dig, length_digN]
    rw [hw, if_pos c1, if_pos c2, if_pos c1, if_pos c3, if_pos c4, rd_dig c6, rd_digN c5, hd, mul_w hu hv hdB hc, mul_m, mul_d, Int.toNat_natCast, hset, c8]
theorem multiply_l (x y : Nat) (hx : nl x ≤ 17592186044416) (hy : nl y ≤ 17592186044416) : ∀ e i, i + e = nl x →
    Ev (fun k => natural_Multiply.l0 k (dig y) (digN (nl x + nl y) (x % B ^ i * y)) (dig x) (nl x : Int) (i : Int)) (enc (x * y))
  | 0, i, hi => by
    obtain rfl : i = nl x := by omega
    have h1 : nl x + nl y ≤ 35184372088832 := by omega
    have h2 : ¬ (nl x : Int) < (nl x : Int) := by omega
    have hlt : x * y < B ^ (nl x + nl y) := by
      rw [powadd]
      exact Nat.mul_lt_mul'' (nl_lt x) (nl_lt y)
    rw [Nat.mod_eq_of_lt (nl_lt x)]
    refine Ev.step (f := fun k => (natural_limbs_text.f k (digN (nl x + nl y) (x * y))).bind fun t252 => (some t252)) (fun k => ?_) (Ev.bind (text_ev h1 hlt) (Ev.now _))
    rw [natural_Multiply.l0, if_neg h2]
  | e + 1, i, hi => by
    have h1 : (i : Int) < (nl x : Int) := by omega
    have h2 : 0 ≤ (i : Int) := by omega
    have h3 : i < nl x := by omega
    have h4 : i + 1 + e = nl x := by omega
    have hM : x % B ^ i * y < B ^ (i + nl y) := by
      rw [powadd]
      exact Nat.mul_lt_mul'' (Nat.mod_lt _ (B_pos i)) (nl_lt y)
    refine Ev.step (fun k => ?_) (multiply_i x y i _ hx hy h3 (multiply_l x y hx hy e (i + 1) h4) (nl y) 0 (x % B ^ i * y) 0 (Nat.zero_add _) (by decide) ⟨hM, by rw [Nat.pow_zero, Nat.mod_one]; simp⟩)
    rw [natural_Multiply.l0, length_dig, length_dig, if_pos h1, if_pos h2, if_pos h1, rd_dig h3]
    rfl
theorem multiply_ev {a b : ByteArray} (ha : a.size ≤ 68719476736) (hb : b.size ≤ 68719476736) : Ev (fun k => natural_Multiply.f k a b) (enc (sv a * sv b)) := by
  have h1 := nl_le_nb (sv a)
  have h2 := nb_sv a
  have h3 := nl_le_nb (sv b)
  have h4 := nb_sv b
  refine Ev.bind (parse_ev a (by omega)) (Ev.bind (parse_ev b (by omega)) ?_)
  have hw : wrap64 ((nl (sv a) : Int) + (nl (sv b) : Int)) = ((nl (sv a) + nl (sv b) : Nat) : Int) := by rw [i64n (by omega) (by omega)]; omega
  refine Ev.congr (fun k => ?_) (multiply_l (sv a) (sv b) (by omega) (by omega) (nl (sv a)) 0 (by omega))
  simp only [length_dig]
  rw [hw, if_pos (by omega), if_pos (by omega), Int.toNat_natCast, digN_zero, Nat.pow_zero, Nat.mod_one, Nat.zero_mul]
  rfl

/-! FromUint -/
theorem two_dig {u : Nat} (h : u < 18446744073709551616) : ([(u : Int) % 4294967296, (u : Int) / 4294967296 % 4294967296] : List Int) = digN 2 u := by
  have e1 : (u : Int) % 4294967296 = ((u / B ^ 0 % B : Nat) : Int) := by rw [Nat.pow_zero, Nat.div_one]; unfold B; omega
  have e2 : (u : Int) / 4294967296 % 4294967296 = ((u / B ^ 1 % B : Nat) : Int) := by rw [Nat.pow_one]; unfold B; omega
  rw [e1, e2]
  rfl
theorem fromUint_ev {u : Nat} (h : u < 18446744073709551616) : Ev (fun k => natural_FromUint.f k (u : Int)) (enc u) := by
  refine Ev.congr (f := fun k => (natural_limbs_text.f k (digN 2 u)).bind fun t => some t) (fun k => ?_) (Ev.bind (text_ev (by omega) (by unfold B; omega)) (Ev.now _))
  rw [natural_FromUint.f, two_dig h]
end Go.Proofs.YtiamgjepcagohaaDoor.P
