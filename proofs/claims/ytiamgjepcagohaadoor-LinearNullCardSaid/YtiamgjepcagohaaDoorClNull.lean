/- LinearNull. -/
import Derived.Test.YtiamgjepcagohaaDoorClZed
import Derived.Test.YtiamgjepcagohaaDoorClPc
namespace Go.Proofs.YtiamgjepcagohaaDoor.P
open Go Go.RowKit Go.Proofs.YtiamgjepcagohaaDoorW.PrintWords Go.Proofs.YtiamgjepcagohaaDoorW.PrintLast Go.Proofs.YtiamgjepcagohaaDoorW.PrintMore Go.Proofs.YtiamgjepcagohaaDoor.Ari

theorem RInv.final2 {n m cols R : Nat} {OUT : St} {M : Nat} : ∀ (d c K : Nat) (S : St), cols - c = d → RInv n m cols c R K S OUT → K * 8 ^ (R - S.piv.length) ≤ M → (∀ i, i < n → ∀ k, k < m → Fit M (OUT.G i k)) ∧ Fit M OUT.pr
  | 0, c, K, S, hd, h, hM => by
    have e := h.end_ (.inl (by omega))
    subst e
    have hK : K ≤ M := Nat.le_trans (Nat.le_mul_of_pos_right K (Nat.pow_pos (by decide))) hM
    exact ⟨fun i hi k hk => (h.ent i hi k hk).mono hK, h.pr.mono hK⟩
  | d + 1, c, K, S, hd, h, hM => by
    by_cases hl : S.piv.length < n
    · cases hp : pvf S.G c (n - S.piv.length) S.piv.length with
      | none => exact RInv.final2 d (c + 1) K S (by omega) (h.skip (by omega) hl hp) hM
      | some a =>
        have hs := h.step (by omega) hl hp
        refine RInv.final2 d (c + 1) _ _ (by omega) hs.1 ?_
        have hle : (stepAt c a S).piv.length = S.piv.length + 1 := by simp [stepAt]
        have hR : S.piv.length + 1 ≤ R := by
          rw [← hs.1.outR, ← hs.1.run, ← hle]
          exact piv_ech _ _ _
        rw [hle]
        rw [show R - S.piv.length = (R - (S.piv.length + 1)) + 1 by omega, Nat.pow_succ] at hM
        calc 8 * K * 8 ^ (R - (S.piv.length + 1)) = K * (8 ^ (R - (S.piv.length + 1)) * 8) := by grind
          _ ≤ M := hM
    · have e := h.end_ (.inr hl)
      subst e
      have hK : K ≤ M := Nat.le_trans (Nat.le_mul_of_pos_right K (Nat.pow_pos (by decide))) hM
      exact ⟨fun i hi k hk => (h.ent i hi k hk).mono hK, h.pr.mono hK⟩
/-- A matrix of small numbers as it is told to the program. -/
abbrev rwM (G : Gr) : Nat → Nat → Raw := fun i k => rw_ (G i k)
theorem vals_rw (G : Gr) : vals (rwM G) = G := by
  funext i k; exact val_rw_ _
theorem chk_in {n m : Nat} (h0 : 0 < n) (h1 : n ≤ 16) (h2 : 0 < m) (h3 : m ≤ 16) : chk n (fun _ => m) = 0 := by
  have e1 : ¬ n = 0 := by omega
  have e2 : ¬ m = 0 := by omega
  have e3 : ¬ (16 < n ∨ 16 < m) := by omega
  unfold chk
  simp [e1, e2, e3]
theorem small_okay {n m : Nat} {G : Gr} (hn : n ≤ 4) (hG : ∀ i k, Fit 1 (G i k)) : Okay n m 1 (ech n m 0 ⟨G, [], 1⟩).piv.length m (rwM G) (ech n m 0 ⟨G, [], 1⟩) := by
  refine Okay.mk_ (fun i _ k _ => (hG i k).raw) (Nat.le_refl _) (Nat.le_refl _) (by rw [vals_rw]) rfl ?_
  have hp := (ech_form n m G).1.ple
  have : 8 ^ (ech n m 0 ⟨G, [], 1⟩).piv.length ≤ 8 ^ 4 := Nat.pow_le_pow_right (by decide) (by omega)
  omega
theorem small_fit {n m : Nat} {G : Gr} (hn : n ≤ 4) (hG : ∀ i k, Fit 1 (G i k)) : (∀ i, i < n → ∀ k, k < m → Fit 4096 ((ech n m 0 ⟨G, [], 1⟩).G i k)) ∧ Fit 4096 (ech n m 0 ⟨G, [], 1⟩).pr := by
  refine RInv.final2 m 0 1 _ rfl (small_okay hn hG).inv ?_
  have hp := (ech_form n m G).1.ple
  have : 8 ^ ((ech n m 0 ⟨G, [], 1⟩).piv.length - ([] : List Nat).length) ≤ 8 ^ 4 := Nat.pow_le_pow_right (by decide) (by simp; omega)
  show 1 * 8 ^ ((ech n m 0 ⟨G, [], 1⟩).piv.length - ([] : List Nat).length) ≤ 4096
  omega
theorem kv_fit {n m f N : Nat} {F : Gr} {p : List Nat} (hF : ∀ i, i < n → ∀ k, k < m → Fit N (F i k)) (h1 : 1 ≤ N) (hf : f < m) : ∀ T, T ≤ n → ∀ k, Fit N (kv F p f T k)
  | 0, _, k => by
    show Fit N (if k = f then 1 else 0)
    split
    · exact Fit.one.mono h1
    · exact Fit.zero.mono h1
  | T + 1, hT, k => by
    show Fit N (if k = p.getD T 0 then -(F T f) else kv F p f T k)
    split
    · exact (hF T (by omega) f hf).neg
    · exact kv_fit hF h1 hf T (by omega) k
theorem frees_get {p : List Nat} {m i : Nat} (h : i < (frees p m).length) : (frees p m).getD i 0 < m ∧ (frees p m).getD i 0 ∉ p := by
  have h1 : (frees p m).getD i 0 ∈ frees p m := by simp [List.getD_eq_getElem?_getD, h]
  unfold frees at h1
  rw [List.mem_filter, List.mem_range] at h1
  exact ⟨h1.1, of_decide_eq_true h1.2⟩
set_option maxHeartbeats 2000000 in
set_option maxRecDepth 1000000 in
theorem LinearNull_c {w : World} {a0 a1 : Int} {lv : Value} {len : Nat} {l : Nat → Nat} (h0 : 0 ≤ a0) (h01 : a0 < 256) (h1 : 0 ≤ a1) (h11 : a1 < 256) (hL : LU w lv len l) :
    Calls Tryd.prog 6 #[.int .u8 a0, .int .u8 a1, lv] w fun e w' => e = .returned (.bool true) ∧ Below w.heap.size w w' := by
  obtain ⟨x, rfl⟩ := Int.eq_ofNat_of_zero_le h0
  obtain ⟨y, rfl⟩ := Int.eq_ofNat_of_zero_le h1
  obtain ⟨n0, hn0⟩ : ∃ n, x % 4 = n := ⟨_, rfl⟩
  obtain ⟨m0, hm0⟩ : ∃ m, y % 5 = m := ⟨_, rfl⟩
  obtain ⟨n, hn⟩ : ∃ n, 1 + n0 = n := ⟨_, rfl⟩
  obtain ⟨m, hm⟩ : ∃ m, 1 + m0 = m := ⟨_, rfl⟩
  have e1 : ((x : Int)).tmod 4 = (n0 : Int) := by rw [Int.tmod_eq_emod_of_nonneg h0]; omega
  have e2 : ((y : Int)).tmod 5 = (m0 : Int) := by rw [Int.tmod_eq_emod_of_nonneg h1]; omega
  have e3 : (1 : Int) + (n0 : Int) = (n : Int) := by omega
  have e4 : (1 : Int) + (m0 : Int) = (m : Int) := by omega
  have e5 : n0 < 4 := by omega
  have e6 : m0 < 5 := by omega
  have hn4 : n ≤ 4 := by omega
  have hm5 : m ≤ 5 := by omega
  have hn1 : 0 < n := by omega
  have hm1 : 0 < m := by omega
  obtain ⟨G, hG⟩ : ∃ G, mxG m len l = G := ⟨_, rfl⟩
  have hF1 : ∀ i k, Fit 1 (G i k) := fun i k => hG ▸ mxE_fit _ _ _
  have hok := small_okay (m := m) hn4 hF1
  have hfit := small_fit (m := m) hn4 hF1
  have hker := fun f (i : Nat) => @ker_zero n m G f i
  have hrn := rank_null n m G
  have hple := (ech_form n m G).1.ple
  obtain ⟨OUT, hO⟩ : ∃ O, ech n m 0 ⟨G, [], 1⟩ = O := ⟨_, rfl⟩
  rw [hO] at hok hfit hker hrn hple
  have hck := chk_in hn1 (show n ≤ 16 by omega) hm1 (show m ≤ 16 by omega)
  have HLL := Aside0.mk hL
  have HS := Aside0.mk (And.intro hn1 (And.intro hn4 (And.intro hm1 hm5)))
  have HOK := Aside0.mk hok
  have HFIT := Aside0.mk hfit
  have HKER := Aside0.mk hker
  have HRN := Aside0.mk hrn
  have HCK := Aside0.mk hck
  have HPLE := Aside0.mk hple
  have HF1 := Aside0.mk hF1
  have HMX : Aside0 (∀ U, Below w.heap.size w U → Calls Tryd.prog 7 #[.int .i64 (n : Int), .int .i64 (m : Int), lv] U fun e w' => ∃ g cap A C, e = .returned (.slice (some ⟨g, 0, none⟩) n cap) ∧ Below U.heap.size U w' ∧ U.heap.size ≤ g ∧ Grid w' U.heap.size g n m A C G) := ⟨fun U h => hG ▸ Matrix_c (Below.refl _ _) (hL.below h) hn1 (by omega) hm1 (by omega)⟩
  clear h0 h01 h1 h11 hn0 hm0 hn hm hG hF1 hok hfit hker hrn hO hck hL hple
  go_enter Tryd.func6, Tryd.ntmps6
  go_upto_region 3 with (go_at_call 7; (with_reducible refine (HMX.out _ (Below.refl _ _)).mono ?_); rintro e w1 ⟨g, cap, A, C, rfl, hV, hg, hGr⟩; have HM := Aside0.mk (hGr.mat (cap := cap)); have HB := Aside0.mk hV; clear hV hg hGr)
  go_upto_region 4 with (go_at_call 18; (with_reducible refine (Kernel_ok (Below.refl _ _) HM.out HCK.out rfl HOK.out).mono ?_); rintro e w2 ⟨u, rfl, hV, hU⟩; replace HM := Aside0.mk (HM.out.below hV); replace HB := Aside0.mk (below_step HB.out hV); have HU := Aside0.mk hU; clear hV hU)
  go_upto_region 5 with (go_at_call 17; (with_reducible refine (Rank_ok (Below.refl _ _) HM.out HCK.out rfl HOK.out).mono ?_); rintro e w3 ⟨rfl, hV⟩; replace HM := Aside0.mk (HM.out.below hV); replace HB := Aside0.mk (below_step HB.out hV); replace HU := Aside0.mk (HU.out.below hV); clear hV)
  obtain ⟨ga, gc, A2, C2, rfl, hg2, hr2⟩ := HU.out.ex
  obtain ⟨F, hF⟩ : ∃ F, (frees OUT.piv m).length = F := ⟨_, rfl⟩
  obtain ⟨R, hR⟩ : ∃ R, OUT.piv.length = R := ⟨_, rfl⟩
  have HFL := Aside0.mk hF
  have HRL := Aside0.mk hR
  rw [hF] at HU hg2 hr2 ⊢
  rw [hR] at HU ⊢
  simp only [hR] at hr2
  have hRF : (R : Int) + (F : Int) = (m : Int) := by have := HRN.out; omega
  have hF5 : F ≤ 5 := by have := HRN.out; omega
  have HG2 := Aside0.mk hg2
  have HR2 := Aside0.mk hr2
  have HBI : Aside0 (Below w3.heap.size w3 w3) := ⟨Below.refl _ _⟩
  clear hF hR hg2 hr2
  go_wp2
  go_loopw [44] (fun v44 wr => ∃ t : Nat, t ≤ F ∧ v44 = .int .i64 t ∧ Aside0 (Below w3.heap.size w3 wr)) (fun v44 _ => F - (intOf v44).toNat)
  case atStart => exact ⟨0, by omega, rfl, HBI⟩
  case round =>
    clear HBI
    obtain ⟨t, ht, rfl, HV⟩ := hrel
    by_cases htF : t < F
    · obtain ⟨gb, go, rfl, hc⟩ := HG2.out (by omega)
      have t1 := cell_below HV.out (hc t htF)
      have hfr := frees_get (p := OUT.piv) (m := m) (i := t) (by rw [HFL.out]; exact htF)
      obtain ⟨f, hf⟩ : ∃ f, (frees OUT.piv m).getD t 0 = f := ⟨_, rfl⟩
      have hrow := (HR2.out t htF).below HV.out
      rw [hf] at hfr hrow
      have HXV : Aside0 (Vec wr (.slice (A2 t) m (C2 t)) m (fun k => rw_ (kv OUT.G OUT.piv f R k))) := ⟨⟨_, _, rfl, hrow⟩⟩
      have hM2 := HM.out.below HV.out
      have HAP : Aside0 (Calls Tryd.prog 20 #[.slice (some ⟨g, 0, none⟩) n cap, .slice (A2 t) m (C2 t)] wr fun e w' => ∃ b, e = .returned (.tuple #[.slice (some ⟨b, 0, none⟩) n n, .int .i64 0]) ∧ Below wr.heap.size wr w' ∧ RowV w' b n (fun _ => 0)) := ⟨by
        have h1 := Apply_ok (N := 4096) (Below.refl _ _) hM2 HCK.out rfl HXV.out (fun i _ k _ => ((HF1.out i k).mono (by decide)).raw) (fun k _ => (kv_fit HFIT.out.1 (by decide) hfr.1 R (by rw [← HRL.out]; exact HPLE.out) k).raw) (by omega)
        refine h1.mono fun e w' ⟨b, he, hb, hr⟩ => ⟨b, he, hb, hr.congr (fun i hi => ?_)⟩
        have h2 := HKER.out f i hfr.1 hfr.2 hi
        rw [HRL.out] at h2
        rw [← h2]
        congr 1
        · funext k; exact val_rw_ _
        · funext k; exact val_rw_ _⟩
      clear hc hfr hf hrow hM2
      go_upto_region 9 with (go_at_call 20; (with_reducible refine HAP.out.mono ?_); rintro e w4 ⟨b, rfl, hV, hRV⟩; replace HV := Aside0.mk (below_step HV.out hV); have HRV := Aside0.mk hRV; clear hV hRV t1)
      obtain ⟨z, hz⟩ : ∃ z : Rat, 0 = z := ⟨_, rfl⟩
      rw [hz] at HRV
      have HSG : Aside0 (∀ U V : World, Below U.heap.size U V → Calls Tryd.prog 21 #[rv z] V fun e w' => e = .returned (.int .i64 0) ∧ Below U.heap.size U w') := ⟨fun U V h => by
        have := Sign_v (p := 0) (N := 1) h Fit.zero (by decide)
        rw [hz] at this
        have h2 : sgn z = 0 := by rw [← hz]; rfl
        rw [h2] at this
        exact this⟩
      clear hz
      go_wp2
      go_loopw [64] (fun v64 wr => ∃ i : Nat, i ≤ n ∧ v64 = .int .i64 i ∧ Aside0 (RowV wr b n (fun _ => z)) ∧ Aside0 (Below w3.heap.size w3 wr)) (fun v64 _ => n - (intOf v64).toNat)
      case atStart => exact ⟨0, by omega, rfl, HRV, HV⟩
      case round =>
        clear HRV HV
        obtain ⟨i, hi, rfl, HRV, HV⟩ := hrel
        by_cases hin : i < n
        · have E1 := HRV.out.el i hin
          have q0 := E1.c0
          have q1 := E1.c1
          have q2 := E1.c2
          clear E1
          go_upto_region 14 with (fail)
          clear q0 q1 q2
          obtain ⟨p5, hp5⟩ : ∃ x, wr.heap.size = x := ⟨_, rfl⟩
          obtain ⟨w6, hw6, HX, hV⟩ := box1 wr (.bool (ngv z)) (.string (enc z.num.natAbs)) (.string (encD z.den)) 27
          rw [hw6]
          rw [hp5] at HX ⊢
          replace HRV := Aside0.mk (HRV.out.below hV)
          replace HV := Aside0.mk (below_step HV.out hV)
          clear hw6 hp5 hV
          have kx := (HX.out); have kx0 := kx.c0; have kx1 := kx.c1; have kx2 := kx.c2; have fx0 := kx.f0; have fx1 := kx.f1; have fx2 := kx.f2; clear kx
          go_wp2_with (go_at_call 21; (with_reducible refine (HSG.out _ _ (Below.refl _ _)).mono ?_); rintro e w7 ⟨rfl, hV⟩; replace HRV := Aside0.mk (HRV.out.below hV); replace HV := Aside0.mk (below_step HV.out hV); clear hV kx0 kx1 kx2 fx0 fx1 fx2)
          go_roundw
          case rel => exact ⟨i + 1, hin, by go_num, HRV, HV⟩
          case measure => simp [intOf]; omega
        · obtain rfl : n = i := by omega
          go_wp2
          go_roundw
          case rel => exact ⟨t + 1, by omega, by go_num, HV⟩
          case measure => simp [intOf]; omega
    · obtain rfl : F = t := by omega
      go_wp2_with (go_at_call 12; (with_reducible refine (awake_c (Below.refl _ _)).mono ?_); rintro e w5 ⟨rfl, hV⟩; replace HV := Aside0.mk (below_step HV.out hV); clear hV)
      go_ret
      exact ⟨rfl, below_step HB.out HV.out⟩
end Go.Proofs.YtiamgjepcagohaaDoor.P
