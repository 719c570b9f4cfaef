/- ClEch: lemmas of this claim, of 3 texts. -/
import Derived.Test.YtiamgjepcagohaaDoorClMem
section
/- Matrices that come in: check, square. -/
namespace Go.Proofs.YtiamgjepcagohaaDoor.P
open Go Go.RowKit Go.Proofs.YtiamgjepcagohaaDoorW.PrintWords Go.Proofs.YtiamgjepcagohaaDoorW.PrintLast Go.Proofs.YtiamgjepcagohaaDoorW.PrintMore Go.Proofs.YtiamgjepcagohaaDoor.Ari

/-- A row that can be read. -/
structure RowAt (W : World) (a : Option Addr) (m : Nat) (E : Nat → Raw) : Prop where
  ex : 0 < m → ∃ rb ro, a = some ⟨rb, ro, none⟩ ∧ Row W rb ro m E
/-- A matrix that can be read: n rows, of length L i. -/
structure Mat (W : World) (v : Value) (n : Nat) (L : Nat → Nat) (E : Nat → Nat → Raw) : Prop where
  ex : ∃ (ga : Option Addr) (gc : Nat) (A : Nat → Option Addr) (C : Nat → Nat), v = .slice ga n gc ∧ (0 < n → ∃ gb go, ga = some ⟨gb, go, none⟩ ∧ ∀ i, i < n → W.cell? ⟨gb, go + i, none⟩ = some (.slice (A i) (L i) (C i))) ∧ ∀ i, i < n → RowAt W (A i) (L i) (E i)
section
variable {w W : World} {v : Value} {n m : Nat} {L : Nat → Nat} {E : Nat → Nat → Raw}
theorem RowAt.below {a : Option Addr} {E : Nat → Raw} (h : RowAt w a m E) (hb : Below w.heap.size w W) : RowAt W a m E := ⟨fun hm => by
  obtain ⟨rb, ro, h1, h2⟩ := h.ex hm
  exact ⟨rb, ro, h1, h2.below hb⟩⟩
theorem cell_below (hb : Below w.heap.size w W) {b o : Nat} {x : Value} (h : w.cell? ⟨b, o, none⟩ = some x) : W.cell? ⟨b, o, none⟩ = some x :=
  (hb.cell (p := ⟨b, o, none⟩) (World.block_lt_of_cell? w ⟨b, o, none⟩ h)).trans h
theorem Mat.below (h : Mat w v n L E) (hb : Below w.heap.size w W) : Mat W v n L E := by
  obtain ⟨ga, gc, A, C, h1, h2, h3⟩ := h.ex
  exact ⟨ga, gc, A, C, h1, fun hn => by
    obtain ⟨gb, go, e, hc⟩ := h2 hn
    exact ⟨gb, go, e, fun i hi => cell_below hb (hc i hi)⟩, fun i hi => (h3 i hi).below hb⟩
theorem Grid.mat {B g cap : Nat} {A C : Nat → Nat} {G : Nat → Nat → Rat} (h : Grid W B g n m A C G) : Mat W (.slice (some ⟨g, 0, none⟩) n cap) n (fun _ => m) (fun i k => rw_ (G i k)) :=
  ⟨some ⟨g, 0, none⟩, cap, fun i => some ⟨A i, 0, none⟩, C, rfl, fun _ => ⟨g, 0, rfl, fun i hi => by rw [Nat.zero_add]; exact h.top i hi⟩, fun i hi => ⟨fun _ => ⟨A i, 0, rfl, (h.rows i hi).row⟩⟩⟩
end
/-- What check says. -/
def chk (n : Nat) (L : Nat → Nat) : Nat := if n = 0 then 4 else if L 0 = 0 then 4 else if (∀ i, i < n → L i = L 0) then (if 16 < n ∨ 16 < L 0 then 2 else 0) else 4
theorem chk_ok {n : Nat} {L : Nat → Nat} (h : chk n L = 0) : 0 < n ∧ n ≤ 16 ∧ 0 < L 0 ∧ L 0 ≤ 16 ∧ ∀ i, i < n → L i = L 0 := by
  unfold chk at h
  split at h
  · cases h
  · split at h
    · cases h
    · split at h
      · split at h
        · cases h
        · rename_i h1 h2 h3 h4
          exact ⟨by omega, by omega, by omega, by omega, h3⟩
      · cases h

set_option maxHeartbeats 2000000 in
set_option maxRecDepth 1000000 in
theorem check_c {w0 w : World} {v : Value} {n : Nat} {L : Nat → Nat} {E : Nat → Nat → Raw} (hB : Below w0.heap.size w0 w) (hM : Mat w v n L E) (hn : n ≤ 1000) :
    Calls Tryd.prog 29 #[v] w fun e w' => e = .returned (.int .i64 (chk n L)) ∧ Below w0.heap.size w0 w' := by
  have H0 := Aside0.mk hB
  obtain ⟨ga, gc, A, C, rfl, h2, h3⟩ := hM.ex
  obtain ⟨out, ho⟩ : ∃ x, chk n L = x := ⟨_, rfl⟩
  rw [ho]
  have HO := Aside0.mk ho
  clear hB hM ho h3
  rcases Nat.eq_zero_or_pos n with h0 | h0
  · subst h0
    have : out = 4 := by rw [← HO.out]; rfl
    subst this
    go_enter Tryd.func29, Tryd.ntmps29
    go_wp2
    go_ret
    exact ⟨rfl, H0.out⟩
  · obtain ⟨gb, go, rfl, hc⟩ := h2 h0
    clear h2
    have HC := Aside0.mk hc
    have hn0 : ¬ n = 0 := by omega
    have t0 := hc 0 h0
    rw [Nat.add_zero] at t0
    clear hc
    by_cases hm : L 0 = 0
    · have : out = 4 := by rw [← HO.out]; unfold chk; rw [if_neg hn0, if_pos hm]
      subst this
      rw [hm] at t0
      go_enter Tryd.func29, Tryd.ntmps29
      go_wp2
      go_ret
      exact ⟨rfl, H0.out⟩
    · have hch : chk n L = if (∀ i, i < n → L i = L 0) then (if 16 < n ∨ 16 < L 0 then 2 else 0) else 4 := by unfold chk; rw [if_neg hn0, if_neg hm]
      rw [HO.out] at hch
      replace HO := Aside0.mk hch
      obtain ⟨m, hLm⟩ : ∃ m, L 0 = m := ⟨_, rfl⟩
      rw [hLm] at hm t0 HO
      clear hch
      have HL := Aside0.mk hLm
      clear hLm
      have hm2 : ((m : Int) == 0) = false := by simp; omega
      have hn2 : ((n : Int) == 0) = false := by simp; omega
      go_enter Tryd.func29, Tryd.ntmps29
      go_wp2
      go_loopw [17] (fun v17 wr => ∃ i : Nat, i ≤ n ∧ v17 = .int .i64 i ∧ Aside0 (∀ j, j < i → L j = m) ∧ wr = w) (fun v17 _ => n - (intOf v17).toNat)
      case atStart => exact ⟨0, by omega, rfl, ⟨fun j hj => by omega⟩, rfl⟩
      case round =>
        obtain ⟨i, hi, rfl, HI, rfl⟩ := hrel
        by_cases hin : i < n
        · have t1 := HC.out i hin
          by_cases hl : L i = m
          · rw [hl] at t1
            have HI1 : Aside0 (∀ j, j < i + 1 → L j = m) := ⟨fun j hj => by
              by_cases e : j = i
              · rw [e]; exact hl
              · exact HI.out j (by omega)⟩
            clear hl
            go_wp2
            refine ⟨⟨i + 1, hin, by go_num, HI1, by first | rfl | trivial⟩, ?_⟩
            simp [intOf]; omega
          · have hl2 : ¬ ((L i : Nat) : Int) = (m : Int) := by omega
            have : out = 4 := by
              rw [HO.out, if_neg]
              exact fun h => hl (h i hin)
            subst this
            clear hl
            go_wp2
            go_ret
            exact ⟨rfl, H0.out⟩
        · obtain rfl : n = i := by omega
          have hall : ∀ j, j < n → L j = m := HI.out
          have hout : out = if 16 < n ∨ 16 < m then 2 else 0 := by rw [HO.out, if_pos hall]
          clear hall HO
          by_cases c1 : 16 < n
          · rw [if_pos (.inl c1)] at hout
            subst hout
            have c1' : decide ((16 : Int) < (n : Int)) = true := decide_eq_true (by omega)
            go_wp2
            go_ret
            exact ⟨rfl, H0.out⟩
          · have c1' : decide ((16 : Int) < (n : Int)) = false := decide_eq_false (by omega)
            by_cases c2 : 16 < m
            · rw [if_pos (.inr c2)] at hout
              subst hout
              have c2' : decide ((16 : Int) < (m : Int)) = true := decide_eq_true (by omega)
              go_wp2
              go_ret
              exact ⟨rfl, H0.out⟩
            · rw [if_neg (by omega)] at hout
              subst hout
              have c2' : decide ((16 : Int) < (m : Int)) = false := decide_eq_false (by omega)
              go_wp2
              go_ret
              exact ⟨rfl, H0.out⟩

/-- What square says. -/
def sqr (n : Nat) (L : Nat → Nat) : Nat := if chk n L = 0 then (if n = L 0 then 0 else 4) else chk n L
set_option maxHeartbeats 2000000 in
set_option maxRecDepth 1000000 in
theorem square_c {w0 w : World} {v : Value} {n : Nat} {L : Nat → Nat} {E : Nat → Nat → Raw} (hB : Below w0.heap.size w0 w) (hM : Mat w v n L E) (hn : n ≤ 1000) :
    Calls Tryd.prog 34 #[v] w fun e w' => e = .returned (.int .i64 (sqr n L)) ∧ Below w0.heap.size w0 w' := by
  have H0 := Aside0.mk hB
  have HM := Aside0.mk hM
  have HC := Aside0.mk (check_c (Below.refl _ _) hM hn)
  obtain ⟨ga, gc, A, C, rfl, h2, h3⟩ := hM.ex
  clear hB hM h3
  by_cases hk : chk n L = 0
  · obtain ⟨h0, h16, hm0, hm16, hall⟩ := chk_ok hk
    have ho : sqr n L = if n = L 0 then 0 else 4 := by unfold sqr; rw [if_pos hk]
    rw [hk] at HC
    rw [ho]
    obtain ⟨gb, go, rfl, hc⟩ := h2 h0
    have HCC := Aside0.mk hc
    have HK := Aside0.mk hk
    clear hk ho h2 hc hall
    obtain ⟨m, hLm⟩ : ∃ m, L 0 = m := ⟨_, rfl⟩
    rw [hLm]
    rw [hLm] at hm0 hm16
    have HL := Aside0.mk hLm
    clear hLm
    have t0 := HCC.out 0 h0
    rw [Nat.add_zero, HL.out] at t0
    by_cases he : n = m
    · have he2 : (n : Int) = (m : Int) := by omega
      rw [if_pos he]
      have HE := Aside0.mk he
      clear he
      go_enter Tryd.func34, Tryd.ntmps34
      go_wp2_with (go_at_call 29; (with_reducible refine HC.out.mono ?_); rintro e w1 ⟨rfl, hV⟩; replace H0 := Aside0.mk (below_step H0.out hV); replace t0 := cell_below hV t0; clear hV)
      go_ret
      exact ⟨rfl, H0.out⟩
    · have he2 : ((n : Int) == (m : Int)) = false := by simp; omega
      rw [if_neg he]
      have HE := Aside0.mk he
      clear he
      go_enter Tryd.func34, Tryd.ntmps34
      go_wp2_with (go_at_call 29; (with_reducible refine HC.out.mono ?_); rintro e w1 ⟨rfl, hV⟩; replace H0 := Aside0.mk (below_step H0.out hV); replace t0 := cell_below hV t0; clear hV)
      go_ret
      exact ⟨rfl, H0.out⟩
  · have ho : sqr n L = chk n L := by unfold sqr; rw [if_neg hk]
    rw [ho]
    obtain ⟨x, hx⟩ : ∃ x, chk n L = x := ⟨_, rfl⟩
    rw [hx] at HC hk ⊢
    have hk2 : ((x : Int) == 0) = false := by simp; omega
    clear hx ho hk h2
    go_enter Tryd.func34, Tryd.ntmps34
    go_wp2_with (go_at_call 29; (with_reducible refine HC.out.mono ?_); rintro e w1 ⟨rfl, hV⟩; replace H0 := Aside0.mk (below_step H0.out hV); clear hV)
    go_ret
    exact ⟨rfl, H0.out⟩
end Go.Proofs.YtiamgjepcagohaaDoor.P
end
section
/- Package linear: its walks. -/
namespace Go.Proofs.YtiamgjepcagohaaDoor.P
open Go Go.RowKit Go.Proofs.YtiamgjepcagohaaDoorW.PrintWords Go.Proofs.YtiamgjepcagohaaDoorW.PrintLast Go.Proofs.YtiamgjepcagohaaDoorW.PrintMore Go.Proofs.YtiamgjepcagohaaDoor.Ari

theorem Bx.chg {w W : World} {S : Nat → Prop} {g : Nat} {a b c : Value} (h : Bx w g a b c) (hb : Chg w W S) (hs : ¬ S g) : Bx W g a b c :=
  ⟨Nat.lt_of_lt_of_le h.lt hb.size, (cell_chg hb h.lt hs).trans h.c0, (cell_chg hb h.lt hs).trans h.c1, (cell_chg hb h.lt hs).trans h.c2, (frozen_chg hb h.lt hs).trans h.f0, (frozen_chg hb h.lt hs).trans h.f1, (frozen_chg hb h.lt hs).trans h.f2⟩
set_option maxHeartbeats 2000000 in
set_option maxRecDepth 1000000 in
theorem minus_c {w : World} {a b m ca cb N : Nat} {p q : Nat → Rat} {f : Rat} (hA : RowV w a m p) (hQ : RowV w b m q) (hne : a ≠ b) (hm : m ≤ 1000)
    (hp : ∀ k, k < m → Fit N (p k)) (hq : ∀ k, k < m → Fit N (q k)) (hf : Fit N f) (hN : N + (N + N) + 1 ≤ 1073741824) :
    Calls Tryd.prog 57 #[.slice (some ⟨a, 0, none⟩) m ca, .slice (some ⟨b, 0, none⟩) m cb, .agg #[.bool (ngv f), .string (enc f.num.natAbs), .string (encD f.den)]] w fun e w' => e = .returned (.tuple #[]) ∧ RowV w' a m (fun k => p k - f * q k) ∧ Chg w w' (fun x => x = a) := by
  have hl := hA.lt
  obtain ⟨W, hW, HX, hbW⟩ := box1 w (.bool (ngv f)) (.string (enc f.num.natAbs)) (.string (encD f.den)) 27
  have HE := Aside0.mk hW
  have HA := Aside0.mk (hA.below hbW)
  have HQ := Aside0.mk (hQ.below hbW)
  have HC := Aside0.mk (Chg.of_below hbW (fun x => x = a))
  have HF := Aside0.mk (And.intro hp (And.intro hq (And.intro hf hN)))
  have HL := Aside0.mk hl
  clear hA hQ hW hbW hp hq hf hN hl
  go_enter Tryd.func57, Tryd.ntmps57
  go_upto_region 1 with (fail)
  rw [HE.out]
  go_wp2
  go_loopw [9] (fun v9 wr => ∃ k : Nat, k ≤ m ∧ v9 = .int .i64 k ∧ Aside0 (RowV wr a m (fun i => if i < k then p i - f * q i else p i)) ∧ Aside0 (RowV wr b m q) ∧ Aside0 (Bx wr w.heap.size (.bool (ngv f)) (.string (enc f.num.natAbs)) (.string (encD f.den))) ∧ Aside0 (Chg w wr (fun x => x = a))) (fun v9 _ => m - (intOf v9).toNat)
  case atStart => exact ⟨0, by omega, rfl, ⟨HA.out.congr (fun i _ => by rw [if_neg (by omega)])⟩, HQ, HX, HC⟩
  case round =>
    clear HA HQ HX HC HE
    obtain ⟨k, hk, rfl, HA, HQ, HX, HC⟩ := hrel
    by_cases hkm : k < m
    · have E1 := Aside0.mk (HQ.out.el k hkm)
      have E2 := Aside0.mk (HA.out.el k hkm)
      simp only [Nat.lt_irrefl, if_false] at E2
      have e0 := E1.out.c0
      have e1 := E1.out.c1
      have e2 := E1.out.c2
      have F1 := Aside0.mk (HF.out.1 k hkm)
      have F2 := Aside0.mk (HF.out.2.1 k hkm)
      have F3 := Aside0.mk (HF.out.2.2.1)
      have F4 := Aside0.mk (HF.out.2.2.2)
      by_cases hz : q k = 0
      · have HZ := Aside0.mk hz
        clear hz
        go_wp2_with (go_at_call 56; (with_reducible refine (isZero_t (Below.refl _ _) HZ.out).mono ?_); rintro e w1 ⟨rfl, hV⟩; replace HX := Aside0.mk (HX.out.below hV); replace HA := Aside0.mk (HA.out.below hV); replace HQ := Aside0.mk (HQ.out.below hV); replace HC := Aside0.mk (HC.out.below hV); clear hV)
        refine ⟨⟨k + 1, hkm, rfl, ⟨HA.out.congr (fun i hi => ?_)⟩, HQ, HX, HC⟩, ?_⟩
        · by_cases h1 : i < k
          · rw [if_pos h1, if_pos (by omega)]
          · rw [if_neg h1]
            by_cases h2 : i < k + 1
            · obtain rfl : i = k := by omega
              rw [if_pos h2, HZ.out, Rat.mul_zero, Rat.sub_eq_add_neg, Rat.neg_zero, Rat.add_zero]
            · rw [if_neg h2]
        · simp [intOf]; omega
      · have HZ := Aside0.mk hz
        clear hz
        go_upto_region 5 with (go_at_call 56; (with_reducible refine (isZero_f (Below.refl _ _) HZ.out).mono ?_); rintro e w1 ⟨rfl, hV⟩; replace HX := Aside0.mk (HX.out.below hV); replace HA := Aside0.mk (HA.out.below hV); replace HQ := Aside0.mk (HQ.out.below hV); replace HC := Aside0.mk (HC.out.below hV); replace E1 := Aside0.mk (E1.out.below hV); replace E2 := Aside0.mk (E2.out.below hV); clear hV e0 e1 e2)
        obtain ⟨x, hx⟩ : ∃ x, f * q k = x := ⟨_, rfl⟩
        obtain ⟨y, hy⟩ : ∃ y, p k - x = y := ⟨_, rfl⟩
        have HXY := Aside0.mk (And.intro hx hy)
        have HM : Aside0 (∀ U V : World, Below U.heap.size U V → Calls Tryd.prog 10 #[rv f, rv (q k)] V fun e w' => e = .returned (rv x) ∧ Below U.heap.size U w') := ⟨fun U V h => hx ▸ Multiply_v h F3.out F2.out (by have := F4.out; omega)⟩
        have HS : Aside0 (∀ U V : World, Below U.heap.size U V → Calls Tryd.prog 72 #[rv (p k), rv x] V fun e w' => e = .returned (rv y) ∧ Below U.heap.size U w') := ⟨fun U V h => hy ▸ Subtract_v h F1.out (hx ▸ F3.out.mul F2.out) F4.out⟩
        clear hx hy
        (refine wp_region_below_tail 14 (by kernel_rfl) (by kernel_rfl) ?_); (simp only [List.take_succ_cons, List.take_zero, List.drop_succ_cons, List.drop_zero]); (repeat (refine wpQuiet_step (fun K hK => ?_); go_simp; first | (refine hK _ ?_; clear hK K) | (apply Exists.intro; refine ⟨fun V hV => ?_, hK _ ?_⟩; (focus ((first | rfl | ((with_reducible exact HM.out _ _ hV)) | ((with_reducible exact HS.out _ _ hV)) | ((have kx := (E1.out.below hV)); have kc0 := kx.c0; have kc1 := kx.c1; have kc2 := kx.c2; clear kx; go_simp; first | rfl | fail) | ((have kx := (E2.out.below hV)); have kc0 := kx.c0; have kc1 := kx.c1; have kc2 := kx.c2; clear kx; go_simp; first | rfl | fail) | ((have kx := (HX.out.below hV)); have kc0 := kx.c0; have kc1 := kx.c1; have kc2 := kx.c2; clear kx; go_simp; first | rfl | fail)))); clear hK K))); (refine wpQuiet_nil ?_); (intro V hV)
        clear E1 E2 HM HS F1 F2 F3 F4
        replace HX := Aside0.mk (HX.out.below hV); replace HA := Aside0.mk (HA.out.below hV); replace HQ := Aside0.mk (HQ.out.below hV); replace HC := Aside0.mk (HC.out.below hV)
        have ee := (HA.out.el k hkm); have ea0 := ee.c0; have ea1 := ee.c1; have ea2 := ee.c2; clear ee; have eb0 := HA.out.fr (k * 3); have eb1 := HA.out.fr (k * 3 + 1); have eb2 := HA.out.fr (k * 3 + 2)
        clear hV
        go_wp2
        refine ⟨⟨k + 1, hkm, rfl, ⟨(HA.out.set hkm y).congr (fun i hi => ?_)⟩, ⟨HQ.out.chg (S := fun x => x = a) (chg_set3 (S := fun x => x = a) (Chg.refl _ _) (.inl rfl) _ _ _) (fun e => hne e.symm)⟩, ⟨HX.out.chg (S := fun x => x = a) (chg_set3 (S := fun x => x = a) (Chg.refl _ _) (.inl rfl) _ _ _) (fun e => by have := HL.out; omega)⟩, ⟨chg_set3 HC.out (.inl rfl) _ _ _⟩⟩, ?_⟩
        · by_cases h1 : i = k
          · subst h1
            rw [if_pos rfl, if_pos (by omega), HXY.out.1, HXY.out.2]
          · rw [if_neg h1]
            by_cases h2 : i < k
            · rw [if_pos h2, if_pos (by omega)]
            · rw [if_neg h2, if_neg (by omega)]
        · simp [intOf]; omega
    · obtain rfl : k = m := by omega
      go_wp2
      go_end0
      exact ⟨rfl, HA.out.congr (fun i hi => by rw [if_pos hi]), HC.out⟩
end Go.Proofs.YtiamgjepcagohaaDoor.P
end
section
/- The elimination, as the program does it, on functions of two indices. -/
namespace Go.Proofs.YtiamgjepcagohaaDoor.P
open Go Go.RowKit Go.Proofs.YtiamgjepcagohaaDoorW.PrintWords Go.Proofs.YtiamgjepcagohaaDoorW.PrintLast Go.Proofs.YtiamgjepcagohaaDoorW.PrintMore Go.Proofs.YtiamgjepcagohaaDoor.Ari

abbrev Gr := Nat → Nat → Rat
structure St where
  G : Gr
  piv : List Nat
  pr : Rat
def swapR (G : Gr) (i j : Nat) : Gr := fun k => if k = i then G j else if k = j then G i else G k
def scaleR (G : Gr) (r c : Nat) : Gr := fun i k => if i = r then G r k / G r c else G i k
def clearR (G : Gr) (r c : Nat) : Gr := fun i k => if i = r then G i k else G i k - G i c * G r k
def stepAt (c at_ : Nat) (S : St) : St :=
  ⟨clearR (scaleR (swapR S.G at_ S.piv.length) S.piv.length c) S.piv.length c, S.piv ++ [c], (if at_ = S.piv.length then S.pr else -S.pr) * S.G at_ c⟩
def estep (n c : Nat) (S : St) : St :=
  match pvf S.G c (n - S.piv.length) S.piv.length with
  | none => S
  | some at_ => stepAt c at_ S
def ech (n : Nat) : Nat → Nat → St → St
  | 0, _, S => S
  | f + 1, c, S => if S.piv.length < n then ech n f (c + 1) (estep n c S) else S

theorem pvf_some {G : Gr} {c : Nat} : ∀ {f i a : Nat}, pvf G c f i = some a → i ≤ a ∧ a < i + f ∧ G a c ≠ 0
  | 0, i, a, h => by simp [pvf] at h
  | f + 1, i, a, h => by
    rw [pvf] at h
    split at h
    · have := pvf_some h
      exact ⟨by omega, by omega, this.2.2⟩
    · rename_i h2
      injection h with h
      subst h
      exact ⟨Nat.le_refl _, by omega, h2⟩
theorem pvf_none {G : Gr} {c : Nat} : ∀ {f i : Nat}, pvf G c f i = none → ∀ k, i ≤ k → k < i + f → G k c = 0
  | 0, i, h, k, h1, h2 => by omega
  | f + 1, i, h, k, h1, h2 => by
    rw [pvf] at h
    split at h
    · rename_i h3
      by_cases e : k = i
      · rw [e]; exact h3
      · exact pvf_none h k (by omega) (by omega)
    · cases h
theorem swap_at (G : Gr) (i j : Nat) : swapR G i j j = G i := by
  unfold swapR
  by_cases e : j = i
  · rw [if_pos e, e]
  · rw [if_neg e, if_pos rfl]
theorem swap_self (G : Gr) (i : Nat) : swapR G i i = G := by
  funext k
  unfold swapR
  by_cases e : k = i
  · rw [if_pos e, e]
  · rw [if_neg e, if_neg e]
theorem piv_estep {n c : Nat} {S : St} : S.piv.length ≤ (estep n c S).piv.length := by
  unfold estep
  split
  · exact Nat.le_refl _
  · simp [stepAt]
theorem piv_ech {n : Nat} : ∀ (f c : Nat) (S : St), S.piv.length ≤ (ech n f c S).piv.length
  | 0, _, _ => Nat.le_refl _
  | f + 1, c, S => by
    rw [ech]
    split
    · exact Nat.le_trans piv_estep (piv_ech f (c + 1) _)
    · exact Nat.le_refl _
theorem ech_full {n f c : Nat} {S : St} (h : ¬ S.piv.length < n) : ech n f c S = S := by
  cases f with
  | zero => rfl
  | succ f => rw [ech, if_neg h]

/-- All numbers are small, and there is room for the steps to come. -/
structure RInv (n m cols c R K : Nat) (S OUT : St) : Prop where
  cle : c ≤ cols
  cm : cols ≤ m
  run : ech n (cols - c) c S = OUT
  ent : ∀ i, i < n → ∀ k, k < m → Fit K (S.G i k)
  pr : Fit K S.pr
  one : 1 ≤ K
  room : K * 8 ^ (R - S.piv.length) ≤ 1073741824
  ple : S.piv.length ≤ n
  outR : OUT.piv.length = R
section
variable {n m cols c R K : Nat} {S OUT : St}
theorem RInv.small (h : RInv n m cols c R K S OUT) : K ≤ 1073741824 :=
  Nat.le_trans (Nat.le_mul_of_pos_right K (Nat.pow_pos (by decide))) h.room
theorem RInv.skip (h : RInv n m cols c R K S OUT) (hc : c < cols) (hl : S.piv.length < n) (hp : pvf S.G c (n - S.piv.length) S.piv.length = none) : RInv n m cols (c + 1) R K S OUT := by
  refine ⟨hc, h.cm, ?_, h.ent, h.pr, h.one, h.room, h.ple, h.outR⟩
  rw [← h.run, show cols - c = (cols - (c + 1)) + 1 by omega, ech, if_pos hl]
  congr 1
  unfold estep
  rw [hp]
theorem RInv.end_ (h : RInv n m cols c R K S OUT) (hx : ¬ c < cols ∨ ¬ S.piv.length < n) : S = OUT := by
  rw [← h.run]
  rcases hx with hx | hx
  · rw [show cols - c = 0 by omega]; rfl
  · exact (ech_full hx).symm
theorem RInv.step (h : RInv n m cols c R K S OUT) {at_ : Nat} (hc : c < cols) (hl : S.piv.length < n) (hp : pvf S.G c (n - S.piv.length) S.piv.length = some at_) :
    RInv n m cols (c + 1) R (8 * K) (stepAt c at_ S) OUT ∧ 8 * K ≤ 1073741824 := by
  have hs : estep n c S = stepAt c at_ S := by unfold estep; rw [hp]
  have hrun : ech n (cols - (c + 1)) (c + 1) (stepAt c at_ S) = OUT := by
    rw [← h.run, show cols - c = (cols - (c + 1)) + 1 by omega, ech, if_pos hl, hs]
  have hle : (stepAt c at_ S).piv.length = S.piv.length + 1 := by simp [stepAt]
  have hR : S.piv.length + 1 ≤ R := by
    rw [← h.outR, ← hrun, ← hle]
    exact piv_ech _ _ _
  have ha := pvf_some hp
  have hone := h.one
  have hroom : 8 * K * 8 ^ (R - (S.piv.length + 1)) ≤ 1073741824 := by
    have := h.room
    rw [show R - S.piv.length = (R - (S.piv.length + 1)) + 1 by omega, Nat.pow_succ] at this
    calc 8 * K * 8 ^ (R - (S.piv.length + 1)) = K * (8 ^ (R - (S.piv.length + 1)) * 8) := by grind
      _ ≤ _ := this
  have ent1 : ∀ i, i < n → ∀ k, k < m → Fit K (swapR S.G at_ S.piv.length i k) := by
    intro i hi k hk
    unfold swapR
    split
    · exact h.ent _ hl k hk
    · split
      · exact h.ent _ (by omega) k hk
      · exact h.ent i hi k hk
  refine ⟨⟨hc, h.cm, hrun, ?_, ?_, by omega, by rw [hle]; exact hroom, by rw [hle]; exact hl, h.outR⟩, Nat.le_trans (Nat.le_mul_of_pos_right _ (Nat.pow_pos (by decide))) hroom⟩
  · have hcm : c < m := Nat.lt_of_lt_of_le hc h.cm
    have ent2 : ∀ i, i < n → ∀ k, k < m → Fit (K + K) (scaleR (swapR S.G at_ S.piv.length) S.piv.length c i k) := by
      intro i hi k hk
      unfold scaleR
      split
      · exact (ent1 _ hl k hk).div (ent1 _ hl c hcm)
      · exact (ent1 i hi k hk).mono (by omega)
    intro i hi k hk
    show Fit (8 * K) (clearR _ _ _ i k)
    unfold clearR
    split
    · exact (ent2 i hi k hk).mono (by omega)
    · refine ((ent2 i hi k hk).sub ((ent2 i hi c hcm).mul (ent2 _ hl k hk))).mono ?_
      omega
  · show Fit (8 * K) (_ * _)
    refine Fit.mono (N := K + K) (Fit.mul ?_ (h.ent _ (by omega) c (Nat.lt_of_lt_of_le hc h.cm))) (by omega)
    split
    · exact h.pr
    · exact h.pr.neg
end
end Go.Proofs.YtiamgjepcagohaaDoor.P
end
