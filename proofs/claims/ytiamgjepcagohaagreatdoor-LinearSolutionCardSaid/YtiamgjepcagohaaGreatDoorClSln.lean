/- ClSln: lemmas of this claim, of 2 texts. -/
import Derived.Test.YtiamgjepcagohaaGreatDoorClApp
import Derived.Test.YtiamgjepcagohaaGreatDoorClSame
import Derived.Test.YtiamgjepcagohaaGreatDoorClKer
import Derived.Test.YtiamgjepcagohaaGreatDoorClPe
section
/- Small matrices: the plain facts that XNull, XRws and XScl hold, for the seat that has not their laws. -/
namespace Go.Proofs.YtiamgjepcagohaaGreatDoor.P
open Go Go.RowKit Go.Proofs.YtiamgjepcagohaaGreatDoorW.PrintWords Go.Proofs.YtiamgjepcagohaaGreatDoorW.PrintLast Go.Proofs.YtiamgjepcagohaaGreatDoorW.PrintMore Go.Proofs.YtiamgjepcagohaaGreatDoor.Ari

theorem RInv.final2 {n m cols R : Nat} {OUT : St} {M : Nat} : ∀ (d c K : Nat) (S : St), cols - c = d → RInv n m cols c R K S OUT → K * 8 ^ (R - S.piv.length) ≤ M → (∀ i, i < n → ∀ k, k < m → Fit M (OUT.G i k)) ∧ Fit M OUT.pr
  | 0, c, K, S, hd, h, hM => by
    have e := h.end_ (.inl (by omega))
    subst e
    have hK : K ≤ M := Nat.le_trans (Nat.le_mul_of_pos_right K (Nat.pow_pos (by decide))) hM
    exact ⟨fun i hi k hk => (h.ent i hi k hk).mono hK, h.pr.mono hK⟩
  | d + 1, c, K, S, hd, h, hM => by
    by_cases hl : S.piv.length < n
    · cases hp : pvf S.G c (n - S.piv.length) S.piv.length with
      | none => exact RInv.final2 d (c + 1) K S (by omega) (h.skip (by omega) hl hp) hM
      | some a =>
        have hs := h.step (by omega) hl hp
        refine RInv.final2 d (c + 1) _ _ (by omega) hs.1 ?_
        have hle : (stepAt c a S).piv.length = S.piv.length + 1 := by simp [stepAt]
        have hR : S.piv.length + 1 ≤ R := by
          rw [← hs.1.outR, ← hs.1.run, ← hle]
          exact piv_ech _ _ _
        rw [hle]
        rw [show R - S.piv.length = (R - (S.piv.length + 1)) + 1 by omega, Nat.pow_succ] at hM
        calc 8 * K * 8 ^ (R - (S.piv.length + 1)) = K * (8 ^ (R - (S.piv.length + 1)) * 8) := by grind
          _ ≤ M := hM
    · have e := h.end_ (.inr hl)
      subst e
      have hK : K ≤ M := Nat.le_trans (Nat.le_mul_of_pos_right K (Nat.pow_pos (by decide))) hM
      exact ⟨fun i hi k hk => (h.ent i hi k hk).mono hK, h.pr.mono hK⟩
abbrev rwM (G : Gr) : Nat → Nat → Raw := fun i k => rw_ (G i k)
theorem vals_rw (G : Gr) : vals (rwM G) = G := by
  funext i k; exact val_rw_ _
theorem chk_in {n m : Nat} (h0 : 0 < n) (h1 : n ≤ 16) (h2 : 0 < m) (h3 : m ≤ 16) : chk n (fun _ => m) = 0 := by
  have e1 : ¬ n = 0 := by omega
  have e2 : ¬ m = 0 := by omega
  have e3 : ¬ (16 < n ∨ 16 < m) := by omega
  unfold chk
  simp [e1, e2, e3]
theorem small_okay {n m : Nat} {G : Gr} (hn : n ≤ 4) (hG : ∀ i k, Fit 1 (G i k)) : Okay n m 1 (ech n m 0 ⟨G, [], 1⟩).piv.length m (rwM G) (ech n m 0 ⟨G, [], 1⟩) := by
  refine Okay.mk_ (fun i _ k _ => (hG i k).raw) (Nat.le_refl _) (Nat.le_refl _) (by rw [vals_rw]) rfl ?_
  have hp := (ech_form n m G).1.ple
  have : 8 ^ (ech n m 0 ⟨G, [], 1⟩).piv.length ≤ 8 ^ 4 := Nat.pow_le_pow_right (by decide) (by omega)
  omega
theorem small_fit {n m : Nat} {G : Gr} (hn : n ≤ 4) (hG : ∀ i k, Fit 1 (G i k)) : (∀ i, i < n → ∀ k, k < m → Fit 4096 ((ech n m 0 ⟨G, [], 1⟩).G i k)) ∧ Fit 4096 (ech n m 0 ⟨G, [], 1⟩).pr := by
  refine RInv.final2 m 0 1 _ rfl (small_okay hn hG).inv ?_
  have hp := (ech_form n m G).1.ple
  have : 8 ^ ((ech n m 0 ⟨G, [], 1⟩).piv.length - ([] : List Nat).length) ≤ 8 ^ 4 := Nat.pow_le_pow_right (by decide) (by simp; omega)
  show 1 * 8 ^ ((ech n m 0 ⟨G, [], 1⟩).piv.length - ([] : List Nat).length) ≤ 4096
  omega
theorem okay_n {n m N : Nat} {G : Gr} (hn : n ≤ 4) (h1 : 1 ≤ N) (hN : N ≤ 16) (hG : ∀ i k, Fit N (G i k)) : Okay n m N (ech n m 0 ⟨G, [], 1⟩).piv.length m (rwM G) (ech n m 0 ⟨G, [], 1⟩) := by
  refine Okay.mk_ (fun i _ k _ => (hG i k).raw) h1 (Nat.le_refl _) (by rw [vals_rw]) rfl ?_
  have hp := (ech_form n m G).1.ple
  have : 8 ^ (ech n m 0 ⟨G, [], 1⟩).piv.length ≤ 8 ^ 4 := Nat.pow_le_pow_right (by decide) (by omega)
  calc N * 8 ^ (ech n m 0 ⟨G, [], 1⟩).piv.length ≤ 16 * 8 ^ 4 := Nat.mul_le_mul hN this
    _ ≤ 1073741824 := by decide
theorem Grid.mat' {W : World} {B g n m cap : Nat} {A C : Nat → Nat} {G : Gr} (h : Grid W B g n m A C G) : Mat W (.slice (some ⟨g, 0, none⟩) n cap) n (fun _ => m) (rwM G) := h.mat
theorem Det_s {w0 w : World} {v : Value} {n N : Nat} {G : Gr} (hB : Below w0.heap.size w0 w) (hM : Mat w v n (fun _ => n) (rwM G)) (h0 : 0 < n) (hn : n ≤ 4) (h1 : 1 ≤ N) (hN : N ≤ 16) (hG : ∀ i k, Fit N (G i k)) :
    Calls Tryz.prog 22 #[v] w fun e w' => e = .returned (.tuple #[rv (dt n G), .int .i64 0]) ∧ Below w0.heap.size w0 w' := by
  rw [← det_ech n G]
  exact Determinant_ok hB hM (chk_in h0 (by omega) h0 (by omega)) rfl (okay_n hn h1 hN hG)
theorem dt_fit {n : Nat} {G : Gr} (hn : n ≤ 4) (hG : ∀ i k, Fit 1 (G i k)) : Fit 4096 (dt n G) := by
  rw [← det_ech n G]
  split
  · exact Fit.zero.mono (by decide)
  · exact (small_fit (m := n) hn hG).2
/-- The matrix with the right side beside it. -/
def aug (G : Gr) (r : Nat → Rat) (n : Nat) : Gr := fun i k => if k < n then G i k else r i
theorem qrow_aug (G : Gr) (r : Nat → Rat) (n i : Nat) : qrow (rwM G) (fun k => rw_ (r k)) n i = aug G r n i := by
  funext k
  unfold qrow aug
  split
  · exact val_rw_ _
  · exact val_rw_ _
theorem aug_zr (G : Gr) (r : Nat → Rat) (n : Nat) : ∀ i, i < n → ∀ j, j < n + 1 → vz (zrows (rwM G) (fun k => rw_ (r k)) n i j) = ((comm (aug G r n i) (n + 1) : Nat) : Rat) * aug G r n i j := by
  intro i _ j hj
  unfold zrows
  rw [qrow_aug]
  exact vz_intz _ hj
theorem comm_ne (q : Nat → Rat) (k : Nat) : ((comm q k : Nat) : Rat) ≠ 0 := by
  have h := comm_pos q k
  intro e
  have : comm q k = 0 := by exact_mod_cast e
  omega
theorem aug_dt (G : Gr) (r : Nat → Rat) (n : Nat) : dt n (aug G r n) = dt n G := dt_congr (fun i _ k hk => by unfold aug; rw [if_pos hk])
theorem sol_none {G : Gr} {r : Nat → Rat} {n : Nat} (h : bar n n 0 (false, 1) (zrows (rwM G) (fun k => rw_ (r k)) n) = none) : dt n G = 0 := by
  have h1 := bar_none (e := 0) (by decide) (fun i => comm_ne (aug G r n i) (n + 1)) (aug_zr G r n) h
  rw [Nat.add_zero] at h1
  by_cases e : dt n G = 0
  · exact e
  · rw [← aug_dt G r n] at e
    have hl := full_det.1 e
    refine absurd ⟨hl, fun x hx => ?_⟩ h1
    obtain ⟨t, ht, rfl⟩ := List.mem_iff_getElem.1 hx
    have := (ech_form n n (aug G r n)).1.lt t ht
    simpa [List.getD_eq_getElem?_getD, ht] using this
theorem aug_fit {G : Gr} {r : Nat → Rat} {n : Nat} (hG : ∀ i k, Fit 1 (G i k)) (hr : ∀ i, Fit 1 (r i)) (i k : Nat) : Fit 1 (aug G r n i k) := by
  unfold aug
  split
  · exact hG i k
  · exact hr i
theorem aug_small {G : Gr} {r : Nat → Rat} {n : Nat} (hn : n ≤ 4) (hG : ∀ i k, Fit 1 (G i k)) (hr : ∀ i, Fit 1 (r i)) : ∀ i, i < n → Fit 4096 ((ech n n 0 ⟨aug G r n, [], 1⟩).G i n) := by
  have hO : Okay n (n + 1) 1 (ech n n 0 ⟨aug G r n, [], 1⟩).piv.length n (rwM (aug G r n)) (ech n n 0 ⟨aug G r n, [], 1⟩) := by
    refine Okay.mk_ (fun i _ k _ => (aug_fit hG hr i k).raw) (Nat.le_refl _) (by omega) (by rw [vals_rw]) rfl ?_
    have hp := (ech_form n n (aug G r n)).1.ple
    have : 8 ^ (ech n n 0 ⟨aug G r n, [], 1⟩).piv.length ≤ 8 ^ 4 := Nat.pow_le_pow_right (by decide) (by omega)
    omega
  intro i hi
  refine (RInv.final2 n 0 1 _ rfl hO.inv (M := 4096) ?_).1 i hi n (by omega)
  have hp := (ech_form n n (aug G r n)).1.ple
  have : 8 ^ ((ech n n 0 ⟨aug G r n, [], 1⟩).piv.length - ([] : List Nat).length) ≤ 8 ^ 4 := Nat.pow_le_pow_right (by decide) (by simp; omega)
  show 1 * 8 ^ ((ech n n 0 ⟨aug G r n, [], 1⟩).piv.length - ([] : List Nat).length) ≤ 4096
  omega
theorem sol_some {G : Gr} {r : Nat → Rat} {n : Nat} {G' : Gz} (hn : n ≤ 4) (hG : ∀ i k, Fit 1 (G i k)) (hr : ∀ i, Fit 1 (r i)) (h : bar n n 0 (false, 1) (zrows (rwM G) (fun k => rw_ (r k)) n) = some G') :
    dt n G ≠ 0 ∧ (∀ i, i < n → dot (G i) (solv G' n) n = r i) ∧ ∀ i, i < n → Fit 4096 (solv G' n i) := by
  have h1 := bar_some (e := 0) (by decide) (fun i => comm_ne (aug G r n i) (n + 1)) (aug_zr G r n) h
  rw [Nat.add_zero] at h1
  obtain ⟨hp, hv⟩ := h1
  have hv' : ∀ i, i < n → solv G' n i = (ech n n 0 ⟨aug G r n, [], 1⟩).G i n := fun i hi => (hv i hi).2
  refine ⟨?_, fun i hi => ?_, fun i hi => ?_⟩
  · rw [← aug_dt G r n]
    exact full_det.2 (by rw [hp, List.length_range])
  · rw [dot_sm]
    have h2 := ech_solves hp i hi
    have e1 : aug G r n i n = r i := by unfold aug; rw [if_neg (by omega)]
    rw [← e1, ← h2]
    refine sm_congr (fun t ht => ?_)
    rw [hv' t ht]
    show _ = (if t < n then G i t else r i) * _
    rw [if_pos ht]
  · rw [hv' i hi]
    exact aug_small hn hG hr i hi
end Go.Proofs.YtiamgjepcagohaaGreatDoor.P
end
section
/- LinearSolution. -/
namespace Go.Proofs.YtiamgjepcagohaaGreatDoor.P
open Go Go.RowKit Go.Proofs.YtiamgjepcagohaaGreatDoorW.PrintWords Go.Proofs.YtiamgjepcagohaaGreatDoorW.PrintLast Go.Proofs.YtiamgjepcagohaaGreatDoorW.PrintMore Go.Proofs.YtiamgjepcagohaaGreatDoor.Ari

theorem sgn_zero' : sgn (0 : Rat) = 0 := by decide
theorem sgn_ne {d : Rat} (h : d ≠ 0) : (sgn d == 0) = false := by
  rw [beq_eq_false_iff_ne]
  have h2 : d.num ≠ 0 := fun e => h (Rat.num_eq_zero.1 e)
  unfold sgn
  rw [if_neg h2]
  split <;> decide
set_option maxHeartbeats 2000000 in
set_option maxRecDepth 1000000 in
theorem LinearSolution_n {w : World} {a0 : Int} {lv rv_ : Value} {len len2 : Nat} {l l2 : Nat → Nat} (h0 : 0 ≤ a0) (h01 : a0 < 256) (hL : LU w lv len l) (hL2 : LU w rv_ len2 l2)
    (hO : bar (1 + a0.toNat % 4) (1 + a0.toNat % 4) 0 (false, 1) (zrows (rwM (mxG (1 + a0.toNat % 4) len l)) (fun k => rw_ (mxG (1 + a0.toNat % 4) len2 l2 0 k)) (1 + a0.toNat % 4)) = none) :
    Calls Tryz.prog 8 #[.int .u8 a0, lv, rv_] w fun e w' => e = .returned (.bool true) ∧ Below w.heap.size w w' := by
  (obtain ⟨x, rfl⟩ := Int.eq_ofNat_of_zero_le h0); (obtain ⟨n0, hn0⟩ : ∃ n, x % 4 = n := ⟨_, rfl⟩); (obtain ⟨n, hn⟩ : ∃ n, 1 + n0 = n := ⟨_, rfl⟩); (have e1 : ((x : Int)).tmod 4 = (n0 : Int) := by rw [Int.tmod_eq_emod_of_nonneg h0]; omega); (have e3 : (1 : Int) + (n0 : Int) = (n : Int) := by omega); (have e5 : n0 < 4 := by omega); (have hn4 : n ≤ 4 := by omega); (have hn1 : 0 < n := by omega); (have hsz : 1 + x % 4 = n := by omega); (rw [show ((x : Int)).toNat = x from rfl] at hO); (rw [hsz] at hO); (obtain ⟨G, hG⟩ : ∃ G, mxG n len l = G := ⟨_, rfl⟩); (obtain ⟨r, hr⟩ : ∃ r, mxG n len2 l2 = r := ⟨_, rfl⟩); (rw [hG, hr] at hO); (have hF1 : ∀ i k, Fit 1 (G i k) := fun i k => hG ▸ mxE_fit _ _ _); (have hF2 : ∀ i k, Fit 1 (r i k) := fun i k => hr ▸ mxE_fit _ _ _); (have HF1 := Aside0.mk hF1); (have HMX : Aside0 (∀ U, Below w.heap.size w U → Calls Tryz.prog 26 #[.int .i64 (n : Int), .int .i64 (n : Int), lv] U fun e w' => ∃ g cap A C, e = .returned (.slice (some ⟨g, 0, none⟩) n cap) ∧ Below U.heap.size U w' ∧ U.heap.size ≤ g ∧ Grid w' U.heap.size g n n A C G) := ⟨fun U h => hG ▸ Matrix_c (Below.refl _ _) (hL.below h) hn1 (by omega) hn1 (by omega)⟩); (have HMY : Aside0 (∀ U, Below w.heap.size w U → Calls Tryz.prog 26 #[.int .i64 1, .int .i64 (n : Int), rv_] U fun e w' => ∃ g cap A C, e = .returned (.slice (some ⟨g, 0, none⟩) 1 cap) ∧ Below U.heap.size U w' ∧ U.heap.size ≤ g ∧ Grid w' U.heap.size g 1 n A C r) := ⟨fun U h => hr ▸ Matrix_c (n := 1) (Below.refl _ _) (hL2.below h) (by decide) (by decide) hn1 (by omega)⟩); (have HCK := Aside0.mk (chk_in hn1 (show n ≤ 16 by omega) hn1 (show n ≤ 16 by omega))); (have HFS : Aside0 ((∀ i, i < n → ∀ k, k < n → FitS 1 (rwM G i k).2.1 (rwM G i k).2.2) ∧ (∀ i, i < n → FitS 1 (rw_ (r 0 i)).2.1 (rw_ (r 0 i)).2.2) ∧ (1 + (n + 2) * 1) * 3 ^ n ≤ 1073741824) := ⟨fun i _ k _ => (hF1 i k).raw, fun i _ => (hF2 0 i).raw, by exact Nat.le_trans (Nat.mul_le_mul (show 1 + (n + 2) * 1 ≤ 7 by omega) (Nat.pow_le_pow_right (show 0 < 3 by decide) hn4)) (by decide)⟩)
  have hd := sol_none hO
  have HD : Aside0 (∀ U V : World, Below U.heap.size U V → ∀ v, Mat V v n (fun _ => n) (rwM G) → Calls Tryz.prog 22 #[v] V fun e w' => e = .returned (.tuple #[rv (0 : Rat), .int .i64 0]) ∧ Below U.heap.size U w') := ⟨fun U V h v hm => hd ▸ Det_s h hm hn1 hn4 (by decide) (by decide) hF1⟩
  have HSV : Aside0 (∀ V : World, ∀ v u, Mat V v n (fun _ => n) (rwM G) → Vec V u n (fun k => rw_ (r 0 k)) → Calls Tryz.prog 12 #[v, u] V fun e w' => e = .returned (.tuple #[.slice none 0 0, .int .i64 5]) ∧ Below V.heap.size V w') := ⟨fun V v u hm hx => Solve_sing (Below.refl _ _) hm HCK.out rfl hx HFS.out.1 HFS.out.2.1 HFS.out.2.2 hO⟩
  have HSG : Aside0 (∀ V : World, Calls Tryz.prog 27 #[rv (0 : Rat)] V fun e w' => e = .returned (.int .i64 0) ∧ Below V.heap.size V w') := ⟨fun V => by have h := Sign_v (p := 0) (Below.refl V.heap.size V) Fit.zero (by decide); rw [sgn_zero'] at h; exact h⟩
  obtain ⟨z, hz⟩ : ∃ z : Rat, (0 : Rat) = z := ⟨_, rfl⟩
  rw [hz] at HD HSG
  clear h0 h01 hn0 hn hG hr hF1 hF2 hL hL2 hO hd hsz hz
  go_enter Tryz.func8, Tryz.ntmps8
  (go_upto_region 3 with (go_at_call 26; (with_reducible refine (HMX.out _ (Below.refl _ _)).mono ?_); rintro e w1 ⟨g1, cap1, A1, C1, rfl, hV, hg, hGr⟩; have HM := Aside0.mk (hGr.mat' (cap := cap1)); have HB := Aside0.mk hV; clear hV hg hGr)); (go_upto_region 4 with (go_at_call 26; (with_reducible refine (HMY.out _ HB.out).mono ?_); rintro e w2 ⟨g2, cap2, A2, C2, rfl, hV, hg, hGr⟩; replace HM := Aside0.mk (HM.out.below hV); replace HB := Aside0.mk (below_step HB.out hV); have HX := Aside0.mk ((hGr.rows 0 (by decide)).vec (c := C2 0)); have t1 := hGr.top 0 (by decide); clear hV hg hGr)); clear t1
  go_upto_region 5 with (go_at_call 12; (with_reducible refine (HSV.out _ _ _ HM.out HX.out).mono ?_); rintro e w3 ⟨rfl, hV⟩; replace HM := Aside0.mk (HM.out.below hV); replace HB := Aside0.mk (below_step HB.out hV); clear hV)
  go_upto_region 6 with (go_at_call 22; (with_reducible refine (HD.out _ _ (Below.refl _ _) _ HM.out).mono ?_); rintro e w4 ⟨rfl, hV⟩; replace HB := Aside0.mk (below_step HB.out hV); clear hV)
  obtain ⟨p, hp⟩ : ∃ x, w4.heap.size = x := ⟨_, rfl⟩
  obtain ⟨w5, hw5, HY, hV⟩ := box1 w4 (.bool (ngv z)) (.string (enc z.num.natAbs)) (.string (encD z.den)) 49
  rw [hw5]
  rw [hp] at HY ⊢
  replace HB := Aside0.mk (below_step HB.out hV)
  clear hw5 hp hV HM HX
  have kx := (HY.out); have kx0 := kx.c0; have kx1 := kx.c1; have kx2 := kx.c2; have fx0 := kx.f0; have fx1 := kx.f1; have fx2 := kx.f2; clear kx
  go_wp2_with (first
    | (go_at_call 27; (with_reducible refine (HSG.out _).mono ?_); rintro e w6 ⟨rfl, hV⟩; replace HB := Aside0.mk (below_step HB.out hV); clear hV)
    | (go_at_call 11; (with_reducible refine (awake_c (Below.refl _ _)).mono ?_); rintro e w8 ⟨rfl, hV⟩; replace HB := Aside0.mk (below_step HB.out hV); clear hV))
  go_ret
  exact ⟨rfl, HB.out⟩
set_option maxHeartbeats 2000000 in
set_option maxRecDepth 1000000 in
theorem LinearSolution_s {w : World} {a0 : Int} {lv rv_ : Value} {len len2 : Nat} {l l2 : Nat → Nat} {G' : Gz} (h0 : 0 ≤ a0) (h01 : a0 < 256) (hL : LU w lv len l) (hL2 : LU w rv_ len2 l2)
    (hO : bar (1 + a0.toNat % 4) (1 + a0.toNat % 4) 0 (false, 1) (zrows (rwM (mxG (1 + a0.toNat % 4) len l)) (fun k => rw_ (mxG (1 + a0.toNat % 4) len2 l2 0 k)) (1 + a0.toNat % 4)) = some G') :
    Calls Tryz.prog 8 #[.int .u8 a0, lv, rv_] w fun e w' => e = .returned (.bool true) ∧ Below w.heap.size w w' := by
  (obtain ⟨x, rfl⟩ := Int.eq_ofNat_of_zero_le h0); (obtain ⟨n0, hn0⟩ : ∃ n, x % 4 = n := ⟨_, rfl⟩); (obtain ⟨n, hn⟩ : ∃ n, 1 + n0 = n := ⟨_, rfl⟩); (have e1 : ((x : Int)).tmod 4 = (n0 : Int) := by rw [Int.tmod_eq_emod_of_nonneg h0]; omega); (have e3 : (1 : Int) + (n0 : Int) = (n : Int) := by omega); (have e5 : n0 < 4 := by omega); (have hn4 : n ≤ 4 := by omega); (have hn1 : 0 < n := by omega); (have hsz : 1 + x % 4 = n := by omega); (rw [show ((x : Int)).toNat = x from rfl] at hO); (rw [hsz] at hO); (obtain ⟨G, hG⟩ : ∃ G, mxG n len l = G := ⟨_, rfl⟩); (obtain ⟨r, hr⟩ : ∃ r, mxG n len2 l2 = r := ⟨_, rfl⟩); (rw [hG, hr] at hO); (have hF1 : ∀ i k, Fit 1 (G i k) := fun i k => hG ▸ mxE_fit _ _ _); (have hF2 : ∀ i k, Fit 1 (r i k) := fun i k => hr ▸ mxE_fit _ _ _); (have HF1 := Aside0.mk hF1); (have HMX : Aside0 (∀ U, Below w.heap.size w U → Calls Tryz.prog 26 #[.int .i64 (n : Int), .int .i64 (n : Int), lv] U fun e w' => ∃ g cap A C, e = .returned (.slice (some ⟨g, 0, none⟩) n cap) ∧ Below U.heap.size U w' ∧ U.heap.size ≤ g ∧ Grid w' U.heap.size g n n A C G) := ⟨fun U h => hG ▸ Matrix_c (Below.refl _ _) (hL.below h) hn1 (by omega) hn1 (by omega)⟩); (have HMY : Aside0 (∀ U, Below w.heap.size w U → Calls Tryz.prog 26 #[.int .i64 1, .int .i64 (n : Int), rv_] U fun e w' => ∃ g cap A C, e = .returned (.slice (some ⟨g, 0, none⟩) 1 cap) ∧ Below U.heap.size U w' ∧ U.heap.size ≤ g ∧ Grid w' U.heap.size g 1 n A C r) := ⟨fun U h => hr ▸ Matrix_c (n := 1) (Below.refl _ _) (hL2.below h) (by decide) (by decide) hn1 (by omega)⟩); (have HCK := Aside0.mk (chk_in hn1 (show n ≤ 16 by omega) hn1 (show n ≤ 16 by omega))); (have HFS : Aside0 ((∀ i, i < n → ∀ k, k < n → FitS 1 (rwM G i k).2.1 (rwM G i k).2.2) ∧ (∀ i, i < n → FitS 1 (rw_ (r 0 i)).2.1 (rw_ (r 0 i)).2.2) ∧ (1 + (n + 2) * 1) * 3 ^ n ≤ 1073741824) := ⟨fun i _ k _ => (hF1 i k).raw, fun i _ => (hF2 0 i).raw, by exact Nat.le_trans (Nat.mul_le_mul (show 1 + (n + 2) * 1 ≤ 7 by omega) (Nat.pow_le_pow_right (show 0 < 3 by decide) hn4)) (by decide)⟩)
  obtain ⟨hd, hsol, hfit⟩ := sol_some hn4 hF1 (hF2 0) hO
  have hdf := dt_fit hn4 hF1
  obtain ⟨d, hdd⟩ : ∃ d, dt n G = d := ⟨_, rfl⟩
  rw [hdd] at hd hdf
  have HD : Aside0 (∀ U V : World, Below U.heap.size U V → ∀ v, Mat V v n (fun _ => n) (rwM G) → Calls Tryz.prog 22 #[v] V fun e w' => e = .returned (.tuple #[rv d, .int .i64 0]) ∧ Below U.heap.size U w') := ⟨fun U V h v hm => hdd ▸ Det_s h hm hn1 hn4 (by decide) (by decide) hF1⟩
  have HSV : Aside0 (∀ V : World, ∀ v u, Mat V v n (fun _ => n) (rwM G) → Vec V u n (fun k => rw_ (r 0 k)) → Calls Tryz.prog 12 #[v, u] V fun e w' => (∃ b, e = .returned (.tuple #[.slice (some ⟨b, 0, none⟩) n n, .int .i64 0]) ∧ RowV w' b n (solv G' n)) ∧ Below V.heap.size V w') := ⟨fun V v u hm hx => (Solve_g (Below.refl _ _) hm HCK.out rfl hx HFS.out.1 HFS.out.2.1 HFS.out.2.2 hO).mono fun e w' ⟨h, hb⟩ => by
    rcases h with ⟨h1, _⟩ | ⟨G2, b, h1, h2, h3⟩
    · cases h1
    · injection h1 with h1
      subst h1
      exact ⟨⟨b, h2, h3⟩, hb⟩⟩
  have hap : 1 + (n + 1) * (2 * 4096 + 1) ≤ 1073741824 := by omega
  have HAP : Aside0 (∀ V : World, ∀ v u, Mat V v n (fun _ => n) (rwM G) → Vec V u n (fun k => rw_ (solv G' n k)) → Calls Tryz.prog 24 #[v, u] V fun e w' => (∃ b, e = .returned (.tuple #[.slice (some ⟨b, 0, none⟩) n n, .int .i64 0]) ∧ RowV w' b n (r 0)) ∧ Below V.heap.size V w') := ⟨fun V v u hm hx => (Apply_ok (N := 4096) (Below.refl _ _) hm HCK.out rfl hx (fun i _ k _ => ((hF1 i k).mono (by decide)).raw) (fun k hk => (hfit k hk).raw) hap).mono fun e w' ⟨b, h1, h2, h3⟩ => ⟨⟨b, h1, h3.congr (fun i hi => by
      rw [← hsol i hi]
      congr 1
      · funext k; exact val_rw_ _
      · funext k; exact val_rw_ _)⟩, h2⟩⟩
  have HSG : Aside0 (∀ V : World, Calls Tryz.prog 27 #[rv d] V fun e w' => e = .returned (.int .i64 (sgn d)) ∧ Below V.heap.size V w') := ⟨fun V => Sign_v (Below.refl V.heap.size V) hdf (by decide)⟩
  have hs0 := sgn_ne hd
  obtain ⟨s, hs⟩ : ∃ s, sgn d = s := ⟨_, rfl⟩
  rw [hs] at HSG hs0
  have HS0 := Aside0.mk hs0
  obtain ⟨r0, hr0⟩ : ∃ r0, r 0 = r0 := ⟨_, rfl⟩
  rw [hr0] at HAP
  clear h0 h01 hn0 hn hG hF1 hF2 hL hL2 hO hd hsz hdf hsol hfit hdd hs hs0 hap
  go_enter Tryz.func8, Tryz.ntmps8
  (go_upto_region 3 with (go_at_call 26; (with_reducible refine (HMX.out _ (Below.refl _ _)).mono ?_); rintro e w1 ⟨g1, cap1, A1, C1, rfl, hV, hg, hGr⟩; have HM := Aside0.mk (hGr.mat' (cap := cap1)); have HB := Aside0.mk hV; clear hV hg hGr)); (go_upto_region 4 with (go_at_call 26; (with_reducible refine (HMY.out _ HB.out).mono ?_); rintro e w2 ⟨g2, cap2, A2, C2, rfl, hV, hg, hGr⟩; replace HM := Aside0.mk (HM.out.below hV); replace HB := Aside0.mk (below_step HB.out hV); have HX := Aside0.mk ((hGr.rows 0 (by decide)).vec (c := C2 0)); have t1 := hGr.top 0 (by decide); clear hV hg hGr)); clear t1
  rw [hr0] at HX
  go_upto_region 5 with (go_at_call 12; (with_reducible refine (HSV.out _ _ _ HM.out (hr0 ▸ HX.out)).mono ?_); rintro e w3 ⟨⟨bx, rfl, hRX⟩, hV⟩; replace HM := Aside0.mk (HM.out.below hV); replace HX := Aside0.mk (HX.out.below hV); replace HB := Aside0.mk (below_step HB.out hV); have HXV := Aside0.mk (hRX.vec (c := n)); clear hV hRX)
  go_upto_region 6 with (go_at_call 22; (with_reducible refine (HD.out _ _ (Below.refl _ _) _ HM.out).mono ?_); rintro e w4 ⟨rfl, hV⟩; replace HM := Aside0.mk (HM.out.below hV); replace HX := Aside0.mk (HX.out.below hV); replace HXV := Aside0.mk (HXV.out.below hV); replace HB := Aside0.mk (below_step HB.out hV); clear hV)
  obtain ⟨p, hp⟩ : ∃ x, w4.heap.size = x := ⟨_, rfl⟩
  obtain ⟨w5, hw5, HY, hV⟩ := box1 w4 (.bool (ngv d)) (.string (enc d.num.natAbs)) (.string (encD d.den)) 49
  rw [hw5]
  rw [hp] at HY ⊢
  replace HM := Aside0.mk (HM.out.below hV)
  replace HX := Aside0.mk (HX.out.below hV)
  replace HXV := Aside0.mk (HXV.out.below hV)
  replace HB := Aside0.mk (below_step HB.out hV)
  clear hw5 hp hV
  have kx := (HY.out); have kx0 := kx.c0; have kx1 := kx.c1; have kx2 := kx.c2; have fx0 := kx.f0; have fx1 := kx.f1; have fx2 := kx.f2; clear kx
  have hs0 := HS0.out
  go_upto_region 10 with (go_at_call 27; (with_reducible refine (HSG.out _).mono ?_); rintro e w6 ⟨rfl, hV⟩; replace HM := Aside0.mk (HM.out.below hV); replace HX := Aside0.mk (HX.out.below hV); replace HXV := Aside0.mk (HXV.out.below hV); replace HB := Aside0.mk (below_step HB.out hV); clear hV)
  clear hs0 kx0 kx1 kx2 fx0 fx1 fx2 HY
  go_upto_region 11 with (go_at_call 24; (with_reducible refine (HAP.out _ _ _ HM.out HXV.out).mono ?_); rintro e w7 ⟨⟨by_, rfl, hRY⟩, hV⟩; replace HX := Aside0.mk (HX.out.below hV); replace HB := Aside0.mk (below_step HB.out hV); have HYV := Aside0.mk (hRY.vec (c := n)); clear hV hRY)
  go_wp2_with (first
    | (go_at_call 11; (with_reducible refine (awake_c (Below.refl _ _)).mono ?_); rintro e w8 ⟨rfl, hV⟩; replace HX := Aside0.mk (HX.out.below hV); replace HYV := Aside0.mk (HYV.out.below hV); replace HB := Aside0.mk (below_step HB.out hV); clear hV)
    | (go_at_call 14; (with_reducible refine (SameRats_c (Below.refl _ _) HYV.out HX.out (by omega)).mono ?_); rintro e w9 ⟨rfl, hV⟩; replace HB := Aside0.mk (below_step HB.out hV); clear hV))
  go_ret
  exact ⟨rfl, HB.out⟩
set_option maxHeartbeats 2000000 in
set_option maxRecDepth 1000000 in
theorem LinearSolution_c {w : World} {a0 : Int} {lv rv_ : Value} {len len2 : Nat} {l l2 : Nat → Nat} (h0 : 0 ≤ a0) (h01 : a0 < 256) (hL : LU w lv len l) (hL2 : LU w rv_ len2 l2) :
    Calls Tryz.prog 8 #[.int .u8 a0, lv, rv_] w fun e w' => e = .returned (.bool true) ∧ Below w.heap.size w w' := by
  obtain ⟨O, hO⟩ : ∃ O, bar (1 + a0.toNat % 4) (1 + a0.toNat % 4) 0 (false, 1) (zrows (rwM (mxG (1 + a0.toNat % 4) len l)) (fun k => rw_ (mxG (1 + a0.toNat % 4) len2 l2 0 k)) (1 + a0.toNat % 4)) = O := ⟨_, rfl⟩
  cases O with
  | none => exact LinearSolution_n h0 h01 hL hL2 hO
  | some G' => exact LinearSolution_s h0 h01 hL hL2 hO
end Go.Proofs.YtiamgjepcagohaaGreatDoor.P
end
