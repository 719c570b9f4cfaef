/- ClScl: lemmas of this claim, of 6 texts. -/
import Derived.Test.YtiamgjepcagohaaDoorClPa
import Derived.Test.YtiamgjepcagohaaDoorClEch
import Derived.Test.YtiamgjepcagohaaDoorClInt
section
/- The reduced row echelon form and that it is one alone: plain laws. -/
namespace Go.Proofs.YtiamgjepcagohaaDoor.P
open Go Go.Proofs.YtiamgjepcagohaaDoor.Ari
/-! the reduced row echelon form -/
structure Rf (n m c : Nat) (G : Gr) (p : List Nat) : Prop where
  ple : p.length ≤ n
  lt : ∀ t, t < p.length → p.getD t 0 < c
  cm : c ≤ m
  inc : ∀ s t, s < t → t < p.length → p.getD s 0 < p.getD t 0
  one : ∀ t, t < p.length → G t (p.getD t 0) = 1
  zero : ∀ t, t < p.length → ∀ i, i < n → i ≠ t → G i (p.getD t 0) = 0
  lead : ∀ t, t < p.length → ∀ k, k < p.getD t 0 → G t k = 0
  rest : ∀ i, p.length ≤ i → i < n → ∀ k, k < c → G i k = 0
theorem Rf.start (n m : Nat) (G : Gr) : Rf n m 0 G [] := ⟨Nat.zero_le _, fun t h => absurd h (Nat.not_lt_zero _), Nat.zero_le _, fun s t _ h => absurd h (Nat.not_lt_zero _), fun t h => absurd h (Nat.not_lt_zero _), fun t h => absurd h (Nat.not_lt_zero _), fun t h => absurd h (Nat.not_lt_zero _), fun i _ _ k h => absurd h (Nat.not_lt_zero _)⟩
theorem getD_app (p : List Nat) (c t : Nat) : (p ++ [c]).getD t 0 = if t < p.length then p.getD t 0 else if t = p.length then c else 0 := by
  by_cases h : t < p.length
  · rw [if_pos h]
    simp [List.getD_eq_getElem?_getD, List.getElem?_append_left h]
  · rw [if_neg h]
    by_cases e : t = p.length
    · rw [if_pos e, e]; simp [List.getD_eq_getElem?_getD]
    · rw [if_neg e]
      rw [List.getD_eq_getElem?_getD, List.getElem?_eq_none (by simp; omega)]; rfl
theorem swap_other {G : Gr} {i j k : Nat} (h1 : k ≠ i) (h2 : k ≠ j) : swapR G i j k = G k := by
  unfold swapR; rw [if_neg h1, if_neg h2]
theorem Rf.skip {n m c : Nat} {G : Gr} {p : List Nat} (h : Rf n m c G p) (hc : c < m) (h0 : ∀ i, p.length ≤ i → i < n → G i c = 0) : Rf n m (c + 1) G p :=
  ⟨h.ple, fun t ht => Nat.lt_succ_of_lt (h.lt t ht), hc, h.inc, h.one, h.zero, h.lead, fun i h1 h2 k hk => by
    by_cases e : k = c
    · rw [e]; exact h0 i h1 h2
    · exact h.rest i h1 h2 k (by omega)⟩
theorem Rf.step {n m c a : Nat} {S : St} (h : Rf n m c S.G S.piv) (hc : c < m) (h1 : S.piv.length ≤ a) (h2 : a < n) (h3 : S.G a c ≠ 0) : Rf n m (c + 1) (stepAt c a S).G (stepAt c a S).piv := by
  obtain ⟨G, p, pr⟩ := S
  simp only at h h1 h3
  show Rf n m (c + 1) (clearR (scaleR (swapR G a p.length) p.length c) p.length c) (p ++ [c])
  obtain ⟨r, hr⟩ : ∃ r, p.length = r := ⟨_, rfl⟩
  have hpl : (p ++ [c]).length = r + 1 := by rw [List.length_append, hr]; rfl
  have hg := getD_app p c
  rw [hr] at hg h1 ⊢
  have hsr : swapR G a r r = G a := swap_at G a r
  have hlow : ∀ t, t < r → swapR G a r t = G t := fun t ht => swap_other (by omega) (by omega)
  have hhi : ∀ i, r ≤ i → i < n → ∃ i', r ≤ i' ∧ i' < n ∧ swapR G a r i = G i' := by
    intro i hi hn
    unfold swapR
    split
    · exact ⟨r, Nat.le_refl _, by omega, rfl⟩
    · split
      · exact ⟨a, h1, h2, rfl⟩
      · exact ⟨i, hi, hn, rfl⟩
  generalize swapR G a r = G1 at hsr hlow hhi
  have e2r : ∀ k, scaleR G1 r c r k = G a k / G a c := fun k => by show (if r = r then G1 r k / G1 r c else _) = _; rw [if_pos rfl, hsr]
  have e2o : ∀ i, i ≠ r → ∀ k, scaleR G1 r c i k = G1 i k := fun i hi k => by show (if i = r then _ else _) = _; rw [if_neg hi]
  generalize scaleR G1 r c = G2 at e2r e2o
  have e3r : ∀ k, clearR G2 r c r k = G a k / G a c := fun k => by show (if r = r then _ else _) = _; rw [if_pos rfl, e2r]
  have e3o : ∀ i, i ≠ r → ∀ k, clearR G2 r c i k = G1 i k - G1 i c * (G a k / G a c) := fun i hi k => by show (if i = r then _ else _) = _; rw [if_neg hi, e2o i hi, e2o i hi, e2r]
  generalize clearR G2 r c = G3 at e3r e3o
  have ga0 : ∀ k, k < c → G a k = 0 := fun k hk => h.rest a (by omega) h2 k hk
  have gp : ∀ t, t < r → G a (p.getD t 0) = 0 := fun t ht => ga0 _ (h.lt t (by omega))
  have hd1 : G a c / G a c = 1 := by rw [Rat.div_def, Rat.mul_inv_cancel _ h3]
  have hz0 : ∀ x : Rat, (0 : Rat) / x = 0 := fun x => by rw [Rat.div_def, Rat.zero_mul]
  refine ⟨by rw [hpl]; omega, ?_, by omega, ?_, ?_, ?_, ?_, ?_⟩
  · intro t ht
    rw [hg]
    split
    · have := h.lt t (by omega); omega
    · split <;> omega
  · intro s t hs ht
    rw [hpl] at ht
    rw [hg, hg, if_pos (by omega)]
    split
    · exact h.inc s t hs (by omega)
    · rw [if_pos (by omega)]; exact h.lt s (by omega)
  · intro t ht
    rw [hpl] at ht
    rw [hg]
    by_cases e : t = r
    · rw [if_neg (by omega), if_pos e, e, e3r, hd1]
    · have htr : t < r := by omega
      rw [if_pos htr, e3o t e, gp t htr, hz0, Rat.mul_zero, hlow t htr, h.one t (by omega)]
      grind
  · intro t ht i hi hit
    rw [hpl] at ht
    rw [hg]
    by_cases e : t = r
    · rw [if_neg (by omega), if_pos e, e3o i (by omega), hd1]
      grind
    · have htr : t < r := by omega
      rw [if_pos htr]
      by_cases ei : i = r
      · rw [ei, e3r, gp t htr, hz0]
      · rw [e3o i ei, gp t htr, hz0, Rat.mul_zero]
        have : G1 i (p.getD t 0) = 0 := by
          by_cases hl : i < r
          · rw [hlow i hl]; exact h.zero t (by omega) i hi hit
          · obtain ⟨i', h5, h6, h7⟩ := hhi i (by omega) hi
            rw [h7]; exact h.zero t (by omega) i' h6 (by omega)
        rw [this]; grind
  · intro t ht k hk
    rw [hpl] at ht
    rw [hg] at hk
    by_cases e : t = r
    · rw [if_neg (by omega), if_pos e] at hk
      rw [e, e3r, ga0 k hk, hz0]
    · have htr : t < r := by omega
      rw [if_pos htr] at hk
      have := h.lt t (by omega)
      rw [e3o t e, ga0 k (by omega), hz0, Rat.mul_zero, hlow t htr, h.lead t (by omega) k hk]
      grind
  · intro i hi hn k hk
    rw [hpl] at hi
    have e : i ≠ r := by omega
    obtain ⟨i', h5, h6, h7⟩ := hhi i (by omega) hn
    rw [e3o i e, h7]
    by_cases ek : k = c
    · rw [ek, hd1]; grind
    · rw [ga0 k (by omega), hz0, h.rest i' (by omega) h6 k (by omega)]; grind

/-! spans -/
section
variable {n m c a r : Nat} {G : Gr}
theorem sp_swap (ha : a < n) (hr : r < n) : SpM n m G (swapR G a r) ∧ SpM n m (swapR G a r) G := by
  constructor
  · intro i hi
    unfold swapR
    split
    · exact Sp.row hr
    · split
      · exact Sp.row ha
      · exact Sp.row hi
  · intro i hi
    by_cases e : i = a
    · refine Sp.congr (Sp.row hr) (fun k _ => ?_)
      rw [e, swap_at]
    · by_cases e2 : i = r
      · refine Sp.congr (Sp.row (i := a) ha) (fun k _ => ?_)
        rw [e2]; unfold swapR; rw [if_pos rfl]
      · refine Sp.congr (Sp.row hi) (fun k _ => ?_)
        rw [swap_other e e2]
theorem sp_scale (hr : r < n) (h : G r c ≠ 0) : SpM n m G (scaleR G r c) ∧ SpM n m (scaleR G r c) G := by
  have e1 : ∀ k, scaleR G r c r k = G r k / G r c := fun k => by show (if r = r then _ else _) = _; rw [if_pos rfl]
  have e2 : ∀ i, i ≠ r → ∀ k, scaleR G r c i k = G i k := fun i hi k => by show (if i = r then _ else _) = _; rw [if_neg hi]
  constructor
  · intro i hi
    by_cases e : i = r
    · refine Sp.congr (Sp.mul (G r c)⁻¹ (Sp.row hr)) (fun k _ => ?_)
      rw [e, e1, Rat.div_def, Rat.mul_comm]
    · exact Sp.congr (Sp.row hi) (fun k _ => e2 i e k)
  · intro i hi
    by_cases e : i = r
    · refine Sp.congr (Sp.mul (G r c) (Sp.row hr)) (fun k _ => ?_)
      rw [e, e1, Rat.mul_comm, Rat.div_mul_cancel h]
    · exact Sp.congr (Sp.row hi) (fun k _ => (e2 i e k).symm)
theorem sp_clear (hr : r < n) : SpM n m G (clearR G r c) ∧ SpM n m (clearR G r c) G := by
  have e1 : ∀ k, clearR G r c r k = G r k := fun k => by show (if r = r then _ else _) = _; rw [if_pos rfl]
  have e2 : ∀ i, i ≠ r → ∀ k, clearR G r c i k = G i k - G i c * G r k := fun i hi k => by show (if i = r then _ else _) = _; rw [if_neg hi]
  constructor
  · intro i hi
    by_cases e : i = r
    · refine Sp.congr (Sp.row hr) (fun k _ => by rw [e, e1])
    · refine Sp.congr (Sp.add (Sp.row hi) (Sp.mul (-(G i c)) (Sp.row hr))) (fun k _ => ?_)
      rw [e2 i e]; grind
  · intro i hi
    by_cases e : i = r
    · refine Sp.congr (Sp.row hr) (fun k _ => by rw [e, e1])
    · refine Sp.congr (Sp.add (Sp.row hi) (Sp.mul (G i c) (Sp.row hr))) (fun k _ => ?_)
      rw [e2 i e, e1]; grind
end
/-- What the elimination keeps. -/
structure Fm (n m : Nat) (A : Gr) (S : St) : Prop where
  fwd : SpM n m A S.G
  bwd : SpM n m S.G A
theorem Fm.step {n m c a : Nat} {A : Gr} {S : St} (h : Fm n m A S) (hr : S.piv.length < n) (ha : a < n) (hp : S.G a c ≠ 0) : Fm n m A (stepAt c a S) := by
  have h1 := sp_swap (m := m) (G := S.G) ha hr
  have hz : swapR S.G a S.piv.length S.piv.length c ≠ 0 := by rw [swap_at]; exact hp
  have h2 := sp_scale (m := m) hr hz
  have h3 := sp_clear (m := m) (c := c) (G := scaleR (swapR S.G a S.piv.length) S.piv.length c) hr
  exact ⟨((h.fwd.trans h1.1).trans h2.1).trans h3.1, ((h3.2.trans h2.2).trans h1.2).trans h.bwd⟩
theorem Rf.widen {n m c d : Nat} {G : Gr} {p : List Nat} (h : Rf n m c G p) (hl : ¬ p.length < n) (hd : c ≤ d) (hm : d ≤ m) : Rf n m d G p :=
  ⟨h.ple, fun t ht => by have := h.lt t ht; omega, hm, h.inc, h.one, h.zero, h.lead, fun i h1 h2 => by omega⟩
theorem ech_keeps {n m cols : Nat} {A : Gr} (hcm : cols ≤ m) : ∀ (f c : Nat) (S : St), c + f = cols → Rf n m c S.G S.piv → Fm n m A S → Rf n m cols (ech n f c S).G (ech n f c S).piv ∧ Fm n m A (ech n f c S)
  | 0, c, S, hc, h, g => by
    obtain rfl : c = cols := by omega
    exact ⟨h, g⟩
  | f + 1, c, S, hc, h, g => by
    rw [ech]
    by_cases hl : S.piv.length < n
    · rw [if_pos hl]
      refine ech_keeps hcm f (c + 1) _ (by omega) ?_ ?_
      · unfold estep
        split
        · rename_i hp
          exact h.skip (by omega) (fun i h1 h2 => pvf_none hp i h1 (by omega))
        · rename_i a hp
          have := pvf_some hp
          exact h.step (by omega) this.1 (by omega) this.2.2
      · unfold estep
        split
        · exact g
        · rename_i a hp
          have := pvf_some hp
          exact g.step hl (by omega) this.2.2
    · rw [if_neg hl]
      exact ⟨h.widen hl (by omega) hcm, g⟩
theorem ech_form_c (n m cols : Nat) (A : Gr) (h : cols ≤ m) : Rf n m cols (ech n cols 0 ⟨A, [], 1⟩).G (ech n cols 0 ⟨A, [], 1⟩).piv ∧ Fm n m A (ech n cols 0 ⟨A, [], 1⟩) :=
  ech_keeps h cols 0 _ (by omega) (Rf.start n m A) ⟨SpM.refl _ _ _, SpM.refl _ _ _⟩
theorem ech_form (n m : Nat) (A : Gr) : Rf n m m (ech n m 0 ⟨A, [], 1⟩).G (ech n m 0 ⟨A, [], 1⟩).piv ∧ Fm n m A (ech n m 0 ⟨A, [], 1⟩) :=
  ech_form_c n m m A (Nat.le_refl _)

/-! one form alone -/
section
variable {n m : Nat} {F F' : Gr} {p p' : List Nat}
end
end Go.Proofs.YtiamgjepcagohaaDoor.P
end
section
/- The determinant and the kernel, as the elimination finds them: plain laws. -/
namespace Go.Proofs.YtiamgjepcagohaaDoor.P
open Go Go.Proofs.YtiamgjepcagohaaDoor.Ari
/-! the determinant, as the elimination finds it -/
section
variable {n m c a r : Nat} {G : Gr}
theorem swapR_set (h : a ≠ r) : swapR G a r = setR (setR G a (G r)) r (G a) := by
  funext i
  unfold swapR setR
  by_cases e : i = a
  · rw [if_pos e, if_neg (by omega), if_pos e]
  · rw [if_neg e, if_neg e]
theorem dt_swapR (ha : a < n) (hr : r < n) : dt n (swapR G a r) = if a = r then dt n G else -dt n G := by
  by_cases e : a = r
  · rw [if_pos e, e, swap_self]
  · rw [if_neg e, swapR_set e, dt_swap ha hr e]
theorem dt_scaleR (hr : r < n) (h : G r c ≠ 0) : G r c * dt n (scaleR G r c) = dt n G := by
  have e : scaleR G r c = setR G r (fun k => (G r c)⁻¹ * G r k) := by
    funext i
    unfold scaleR setR
    by_cases e : i = r
    · rw [if_pos e]
      funext k
      rw [if_pos e, Rat.div_def, Rat.mul_comm]
    · rw [if_neg e]
      funext k
      rw [if_neg e]
  rw [e, dt_scale _ _ hr, setR_self, ← Rat.mul_assoc, Rat.mul_inv_cancel _ h, Rat.one_mul]
/-- The rows below j are cleared. -/
def clearB (G : Gr) (r c j : Nat) : Gr := fun i k => if i < j ∧ i ≠ r then G i k - G i c * G r k else G i k
theorem dt_clearB (hr : r < n) : ∀ j, j ≤ n → dt n (clearB G r c j) = dt n G
  | 0, _ => dt_congr (fun i _ k _ => by unfold clearB; rw [if_neg (by omega)])
  | j + 1, hj => by
    rw [← dt_clearB hr j (by omega)]
    by_cases e : j = r
    · refine dt_congr (fun i _ k _ => ?_)
      unfold clearB
      by_cases e2 : i < j ∧ i ≠ r
      · rw [if_pos e2, if_pos ⟨by omega, e2.2⟩]
      · rw [if_neg e2, if_neg (by omega)]
    · rw [← dt_sub (M := clearB G r c j) (G j c) hr (show j < n by omega) e]
      refine dt_congr (fun i _ k _ => ?_)
      by_cases e1 : i = j
      · subst e1
        rw [setR_at]
        unfold clearB
        rw [if_pos ⟨by omega, e⟩, if_neg (by omega), if_neg (by omega)]
      · rw [setR_ne e1]
        unfold clearB
        by_cases e2 : i < j ∧ i ≠ r
        · rw [if_pos e2, if_pos ⟨by omega, e2.2⟩]
        · rw [if_neg e2, if_neg (by omega)]
theorem dt_clearR (hr : r < n) : dt n (clearR G r c) = dt n G := by
  rw [← dt_clearB (c := c) (G := G) hr n (Nat.le_refl _)]
  refine dt_congr (fun i hi k _ => ?_)
  unfold clearR clearB
  by_cases e : i = r
  · rw [if_pos e, if_neg (by omega)]
  · rw [if_neg e, if_pos ⟨hi, e⟩]
end
theorem dt_step {n c a : Nat} {S : St} (hr : S.piv.length < n) (ha : a < n) (hp : S.G a c ≠ 0) : (stepAt c a S).pr * dt n (stepAt c a S).G = S.pr * dt n S.G := by
  have hz : swapR S.G a S.piv.length S.piv.length c = S.G a c := by rw [swap_at]
  have h1 := dt_swapR (G := S.G) ha hr
  have h2 := dt_scaleR (G := swapR S.G a S.piv.length) (c := c) hr (by rw [hz]; exact hp)
  rw [hz] at h2
  show ((if a = S.piv.length then S.pr else -S.pr) * S.G a c) * dt n (clearR (scaleR (swapR S.G a S.piv.length) S.piv.length c) S.piv.length c) = _
  rw [dt_clearR hr, Rat.mul_assoc, h2, h1]
  split
  · rfl
  · grind
theorem dt_ech {n : Nat} {x : Rat} : ∀ (f c : Nat) (S : St), S.pr * dt n S.G = x → (ech n f c S).pr * dt n (ech n f c S).G = x
  | 0, c, S, h => h
  | f + 1, c, S, h => by
    rw [ech]
    by_cases hl : S.piv.length < n
    · rw [if_pos hl]
      refine dt_ech f (c + 1) _ ?_
      unfold estep
      split
      · exact h
      · rename_i a hp
        have := pvf_some hp
        rw [dt_step hl (by omega) this.2.2]
        exact h
    · rw [if_neg hl]; exact h
theorem inc_ge {p : List Nat} (h : ∀ s t, s < t → t < p.length → p.getD s 0 < p.getD t 0) : ∀ t, t < p.length → t ≤ p.getD t 0
  | 0, _ => Nat.zero_le _
  | t + 1, ht => by
    have h1 := inc_ge h t (by omega)
    have h2 := h t (t + 1) (by omega) ht
    omega
theorem Rf.full {n : Nat} {G : Gr} {p : List Nat} (h : Rf n n n G p) (hp : p.length = n) : ∀ t, t < n → p.getD t 0 = t := by
  have h1 := inc_ge h.inc
  have h2 : ∀ d t, t + d + 1 = n → p.getD t 0 ≤ t := by
    intro d
    induction d with
    | zero => intro t ht; have := h.lt t (by omega); omega
    | succ d ih =>
      intro t ht
      have := ih (t + 1) (by omega)
      have := h.inc t (t + 1) (by omega) (by omega)
      omega
  intro t ht
  have := h1 t (by omega)
  have := h2 (n - t - 1) t (by omega)
  omega
/-- What the program answers is the determinant. -/
theorem det_ech (n : Nat) (A : Gr) : (if (ech n n 0 ⟨A, [], 1⟩).piv.length < n then 0 else (ech n n 0 ⟨A, [], 1⟩).pr) = dt n A := by
  have hd := dt_ech (n := n) n 0 ⟨A, [], 1⟩ (x := dt n A) (Rat.one_mul _)
  obtain ⟨hf, hs⟩ := ech_form n n A
  generalize ech n n 0 ⟨A, [], 1⟩ = S at *
  rw [← hd]
  by_cases hl : S.piv.length < n
  · rw [if_pos hl, dt_row0 (r := S.piv.length) hl (fun k hk => hf.rest _ (Nat.le_refl _) hl k hk), Rat.mul_zero]
  · rw [if_neg hl]
    have hp : S.piv.length = n := by have := hf.ple; omega
    have hfull := hf.full hp
    rw [dt_id (M := S.G), Rat.mul_one]
    intro i hi k hk
    by_cases e : i = k
    · subst e
      rw [if_pos rfl]
      have := hf.one i (by omega)
      rwa [hfull i hi] at this
    · rw [if_neg e]
      have := hf.zero k (by omega) i hi e
      rwa [hfull k hk] at this

/-! the kernel -/
end Go.Proofs.YtiamgjepcagohaaDoor.P
end
section
/- LinearNull. -/
namespace Go.Proofs.YtiamgjepcagohaaDoor.P
open Go Go.RowKit Go.Proofs.YtiamgjepcagohaaDoorW.PrintWords Go.Proofs.YtiamgjepcagohaaDoorW.PrintLast Go.Proofs.YtiamgjepcagohaaDoorW.PrintMore Go.Proofs.YtiamgjepcagohaaDoor.Ari

theorem RInv.final2 {n m cols R : Nat} {OUT : St} {M : Nat} : ∀ (d c K : Nat) (S : St), cols - c = d → RInv n m cols c R K S OUT → K * 8 ^ (R - S.piv.length) ≤ M → (∀ i, i < n → ∀ k, k < m → Fit M (OUT.G i k)) ∧ Fit M OUT.pr
  | 0, c, K, S, hd, h, hM => by
    have e := h.end_ (.inl (by omega))
    subst e
    have hK : K ≤ M := Nat.le_trans (Nat.le_mul_of_pos_right K (Nat.pow_pos (by decide))) hM
    exact ⟨fun i hi k hk => (h.ent i hi k hk).mono hK, h.pr.mono hK⟩
  | d + 1, c, K, S, hd, h, hM => by
    by_cases hl : S.piv.length < n
    · cases hp : pvf S.G c (n - S.piv.length) S.piv.length with
      | none => exact RInv.final2 d (c + 1) K S (by omega) (h.skip (by omega) hl hp) hM
      | some a =>
        have hs := h.step (by omega) hl hp
        refine RInv.final2 d (c + 1) _ _ (by omega) hs.1 ?_
        have hle : (stepAt c a S).piv.length = S.piv.length + 1 := by simp [stepAt]
        have hR : S.piv.length + 1 ≤ R := by
          rw [← hs.1.outR, ← hs.1.run, ← hle]
          exact piv_ech _ _ _
        rw [hle]
        rw [show R - S.piv.length = (R - (S.piv.length + 1)) + 1 by omega, Nat.pow_succ] at hM
        calc 8 * K * 8 ^ (R - (S.piv.length + 1)) = K * (8 ^ (R - (S.piv.length + 1)) * 8) := by grind
          _ ≤ M := hM
    · have e := h.end_ (.inr hl)
      subst e
      have hK : K ≤ M := Nat.le_trans (Nat.le_mul_of_pos_right K (Nat.pow_pos (by decide))) hM
      exact ⟨fun i hi k hk => (h.ent i hi k hk).mono hK, h.pr.mono hK⟩
/-- A matrix of small numbers as it is told to the program. -/
abbrev rwM (G : Gr) : Nat → Nat → Raw := fun i k => rw_ (G i k)
theorem vals_rw (G : Gr) : vals (rwM G) = G := by
  funext i k; exact val_rw_ _
theorem chk_in {n m : Nat} (h0 : 0 < n) (h1 : n ≤ 16) (h2 : 0 < m) (h3 : m ≤ 16) : chk n (fun _ => m) = 0 := by
  have e1 : ¬ n = 0 := by omega
  have e2 : ¬ m = 0 := by omega
  have e3 : ¬ (16 < n ∨ 16 < m) := by omega
  unfold chk
  simp [e1, e2, e3]
theorem small_okay {n m : Nat} {G : Gr} (hn : n ≤ 4) (hG : ∀ i k, Fit 1 (G i k)) : Okay n m 1 (ech n m 0 ⟨G, [], 1⟩).piv.length m (rwM G) (ech n m 0 ⟨G, [], 1⟩) := by
  refine Okay.mk_ (fun i _ k _ => (hG i k).raw) (Nat.le_refl _) (Nat.le_refl _) (by rw [vals_rw]) rfl ?_
  have hp := (ech_form n m G).1.ple
  have : 8 ^ (ech n m 0 ⟨G, [], 1⟩).piv.length ≤ 8 ^ 4 := Nat.pow_le_pow_right (by decide) (by omega)
  omega
theorem small_fit {n m : Nat} {G : Gr} (hn : n ≤ 4) (hG : ∀ i k, Fit 1 (G i k)) : (∀ i, i < n → ∀ k, k < m → Fit 4096 ((ech n m 0 ⟨G, [], 1⟩).G i k)) ∧ Fit 4096 (ech n m 0 ⟨G, [], 1⟩).pr := by
  refine RInv.final2 m 0 1 _ rfl (small_okay hn hG).inv ?_
  have hp := (ech_form n m G).1.ple
  have : 8 ^ ((ech n m 0 ⟨G, [], 1⟩).piv.length - ([] : List Nat).length) ≤ 8 ^ 4 := Nat.pow_le_pow_right (by decide) (by simp; omega)
  show 1 * 8 ^ ((ech n m 0 ⟨G, [], 1⟩).piv.length - ([] : List Nat).length) ≤ 4096
  omega
end Go.Proofs.YtiamgjepcagohaaDoor.P
end
section
/- The reference's comparisons of lists: SameRats, SameRows, SameInts, of equal ones and of any. -/
namespace Go.Proofs.YtiamgjepcagohaaDoor.P
open Go Go.RowKit Go.Proofs.YtiamgjepcagohaaDoorW.PrintWords Go.Proofs.YtiamgjepcagohaaDoorW.PrintLast Go.Proofs.YtiamgjepcagohaaDoorW.PrintMore Go.Proofs.YtiamgjepcagohaaDoor.Ari

end Go.Proofs.YtiamgjepcagohaaDoor.P
end
section
/- LinearRows. -/
namespace Go.Proofs.YtiamgjepcagohaaDoor.P
open Go Go.RowKit Go.Proofs.YtiamgjepcagohaaDoorW.PrintWords Go.Proofs.YtiamgjepcagohaaDoorW.PrintLast Go.Proofs.YtiamgjepcagohaaDoorW.PrintMore Go.Proofs.YtiamgjepcagohaaDoor.Ari

/-- A multiple of row q added to row p, in the first k columns. -/
def addK (G : Gr) (p q : Nat) (f : Rat) (k : Nat) : Gr := fun i j => if i = p ∧ j < k then G p j + f * G q j else G i j
def addR (G : Gr) (p q : Nat) (f : Rat) : Gr := fun i j => if i = p then G p j + f * G q j else G i j
theorem okay_n {n m N : Nat} {G : Gr} (hn : n ≤ 4) (h1 : 1 ≤ N) (hN : N ≤ 16) (hG : ∀ i k, Fit N (G i k)) : Okay n m N (ech n m 0 ⟨G, [], 1⟩).piv.length m (rwM G) (ech n m 0 ⟨G, [], 1⟩) := by
  refine Okay.mk_ (fun i _ k _ => (hG i k).raw) h1 (Nat.le_refl _) (by rw [vals_rw]) rfl ?_
  have hp := (ech_form n m G).1.ple
  have : 8 ^ (ech n m 0 ⟨G, [], 1⟩).piv.length ≤ 8 ^ 4 := Nat.pow_le_pow_right (by decide) (by omega)
  calc N * 8 ^ (ech n m 0 ⟨G, [], 1⟩).piv.length ≤ 16 * 8 ^ 4 := Nat.mul_le_mul hN this
    _ ≤ 1073741824 := by decide
theorem swapR_fit {G : Gr} {N a b : Nat} (hG : ∀ i k, Fit N (G i k)) (i k : Nat) : Fit N (swapR G a b i k) := by
  unfold swapR
  split
  · exact hG _ _
  · split
    · exact hG _ _
    · exact hG _ _
theorem Grid.mat' {W : World} {B g n m cap : Nat} {A C : Nat → Nat} {G : Gr} (h : Grid W B g n m A C G) : Mat W (.slice (some ⟨g, 0, none⟩) n cap) n (fun _ => m) (rwM G) := h.mat
/-- b[0], b[q] = b[q], b[0]. -/
theorem tmod_nat {x n p : Nat} (h : x % n = p) : Int.tmod (x : Int) (n : Int) = (p : Int) := by
  rw [Int.tmod_eq_emod_of_nonneg (by omega), ← h]; simp

end Go.Proofs.YtiamgjepcagohaaDoor.P
end
section
/- LinearScale. -/
namespace Go.Proofs.YtiamgjepcagohaaDoor.P
open Go Go.RowKit Go.Proofs.YtiamgjepcagohaaDoorW.PrintWords Go.Proofs.YtiamgjepcagohaaDoorW.PrintLast Go.Proofs.YtiamgjepcagohaaDoorW.PrintMore Go.Proofs.YtiamgjepcagohaaDoor.Ari

/-- A row multiplied, in the first k columns. -/
def mulK (G : Gr) (p : Nat) (f : Rat) (k : Nat) : Gr := fun i j => if i = p ∧ j < k then f * G p j else G i j
def mulR (G : Gr) (p : Nat) (f : Rat) : Gr := fun i j => if i = p then f * G p j else G i j
theorem dt_mulR {n p : Nat} {G : Gr} {f : Rat} (hp : p < n) : dt n (mulR G p f) = f * dt n G := by
  have h := dt_scale (M := G) f (G p) hp
  rw [setR_self] at h
  rw [← h]
  refine dt_congr (fun i _ k _ => ?_)
  show (if i = p then _ else _) = _
  by_cases e : i = p
  · rw [if_pos e, e, setR_at]
  · rw [if_neg e, setR_ne e]
theorem mulR_fit {G : Gr} {p : Nat} {f : Rat} (hG : ∀ i k, Fit 1 (G i k)) (hf : Fit 1 f) (i k : Nat) : Fit 2 (mulR G p f i k) := by
  unfold mulR
  split
  · exact hf.mul (hG p k)
  · exact (hG i k).mono (by decide)
/-- What Determinant answers of a small matrix. -/
theorem Det_s {w0 w : World} {v : Value} {n N : Nat} {G : Gr} (hB : Below w0.heap.size w0 w) (hM : Mat w v n (fun _ => n) (rwM G)) (h0 : 0 < n) (hn : n ≤ 4) (h1 : 1 ≤ N) (hN : N ≤ 16) (hG : ∀ i k, Fit N (G i k)) :
    Calls Tryd.prog 15 #[v] w fun e w' => e = .returned (.tuple #[rv (dt n G), .int .i64 0]) ∧ Below w0.heap.size w0 w' := by
  rw [← det_ech n G]
  exact Determinant_ok hB hM (chk_in h0 (by omega) h0 (by omega)) rfl (okay_n hn h1 hN hG)
theorem dt_fit {n : Nat} {G : Gr} (hn : n ≤ 4) (hG : ∀ i k, Fit 1 (G i k)) : Fit 4096 (dt n G) := by
  rw [← det_ech n G]
  split
  · exact Fit.zero.mono (by decide)
  · exact (small_fit (m := n) hn hG).2
set_option maxHeartbeats 2000000 in
set_option maxRecDepth 1000000 in
theorem LinearScale_c {w : World} {a0 a2 a3 : Int} {lv : Value} {len : Nat} {l : Nat → Nat} (h0 : 0 ≤ a0) (h01 : a0 < 256) (hL : LU w lv len l) (h2 : 0 ≤ a2) (h21 : a2 < 256) (h3 : 0 ≤ a3) (h31 : a3 < 65536) :
    Calls Tryd.prog 4 #[.int .u8 a0, lv, .int .u8 a2, .int .u16 a3] w fun e w' => e = .returned (.bool true) ∧ Below w.heap.size w w' := by
  obtain ⟨x, rfl⟩ := Int.eq_ofNat_of_zero_le h0
  obtain ⟨xi, rfl⟩ := Int.eq_ofNat_of_zero_le h2
  obtain ⟨xb, rfl⟩ := Int.eq_ofNat_of_zero_le h3
  obtain ⟨n0, hn0⟩ : ∃ n, x % 3 = n := ⟨_, rfl⟩
  obtain ⟨n, hn⟩ : ∃ n, 2 + n0 = n := ⟨_, rfl⟩
  obtain ⟨p, hp⟩ : ∃ p, xi % n = p := ⟨_, rfl⟩
  have e1 : ((x : Int)).tmod 3 = (n0 : Int) := by rw [Int.tmod_eq_emod_of_nonneg h0]; omega
  have e3 : (2 : Int) + (n0 : Int) = (n : Int) := by omega
  have e5 : n0 < 3 := by omega
  have e7 := tmod_nat hp
  have e9 : wrap64 (xi : Int) = (xi : Int) := w64s (b := 256) (by omega) (by decide)
  have hn4 : n ≤ 4 := by omega
  have hn1 : 1 < n := by omega
  have hpn : p < n := by rw [← hp]; exact Nat.mod_lt _ (by omega)
  have hne : ((n : Int) == 0) = false := by simp; omega
  obtain ⟨G, hG⟩ : ∃ G, mxG n len l = G := ⟨_, rfl⟩
  have hF1 : ∀ i k, Fit 1 (G i k) := fun i k => hG ▸ mxE_fit _ _ _
  obtain ⟨f, hf⟩ : ∃ f, sgR xb = f := ⟨_, rfl⟩
  have HFF : Aside0 (Fit 1 f) := ⟨hf ▸ sgR_fit _⟩
  have hxb : xb < 65536 := by omega
  have HSG : Aside0 (∀ U V : World, Below U.heap.size U V → Calls Tryd.prog 8 #[.int .u16 (xb : Int)] V fun e w' => e = .returned (rv f) ∧ Below U.heap.size U w') := ⟨fun U V h => hf ▸ Signed_c h hxb⟩
  have HF1 := Aside0.mk hF1
  have HMX : Aside0 (∀ U, Below w.heap.size w U → Calls Tryd.prog 7 #[.int .i64 (n : Int), .int .i64 (n : Int), lv] U fun e w' => ∃ g cap A C, e = .returned (.slice (some ⟨g, 0, none⟩) n cap) ∧ Below U.heap.size U w' ∧ U.heap.size ≤ g ∧ Grid w' U.heap.size g n n A C G) := ⟨fun U h => hG ▸ Matrix_c (Below.refl _ _) (hL.below h) (by omega) (by omega) (by omega) (by omega)⟩
  clear h0 h01 h2 h21 h3 h31 hn0 hn hG hF1 hL hp hf hxb
  go_enter Tryd.func4, Tryd.ntmps4
  go_upto_region 3 with (go_at_call 7; (with_reducible refine (HMX.out _ (Below.refl _ _)).mono ?_); rintro e w1 ⟨g1, cap1, A1, C1, rfl, hV, hg, hGr⟩; have HM := Aside0.mk (hGr.mat' (cap := cap1)); have HBW := Aside0.mk hV; clear hV hg hGr)
  go_upto_region 4 with (go_at_call 7; (with_reducible refine (HMX.out _ HBW.out).mono ?_); rintro e w2 ⟨g, cap, A, C, rfl, hV, hg, hGr⟩; have HGW := Aside0.mk (And.intro hg (fun i (hi : i < n) => (hGr.ge i hi))); have HB := Aside0.mk hV; have HG := Aside0.mk hGr; clear hV hg hGr)
  go_upto_region 6 with (go_at_call 8; (with_reducible refine (HSG.out _ _ (Below.refl _ _)).mono ?_); rintro e w3 ⟨rfl, hV⟩; (replace HG := Aside0.mk (HG.out.below hV)); (replace HB := Aside0.mk (below_step HB.out hV)); clear hV)
  clear e7 e9 hne e1 e3 e5
  obtain ⟨p19, hp19⟩ : ∃ x, w3.heap.size = x := ⟨_, rfl⟩
  obtain ⟨w5, hw5, HX, hV⟩ := box1 w3 (.bool (ngv f)) (.string (enc f.num.natAbs)) (.string (encD f.den)) 27
  rw [hw5]
  have HGP : Aside0 (g < p19 ∧ ∀ i, i < n → A i < p19) := ⟨hp19 ▸ ⟨HG.out.lt, fun i hi => (HG.out.rows i hi).lt⟩⟩
  rw [hp19] at HX ⊢
  (replace HG := Aside0.mk (HG.out.below hV)); (replace HB := Aside0.mk (below_step HB.out hV))
  clear hw5 hp19 hV
  have t1 := HG.out.top p hpn
  go_upto_block 0 with (fail)
  clear t1
  have HG0 : Aside0 (Grid w5 w1.heap.size g n n A C (mulK G p f 0)) := ⟨HG.out.congr (fun i _ j _ => by unfold mulK; rw [if_neg (by omega)])⟩
  clear HG
  go_cut [11, 13] (fun v11 v13 wc => v11 = .slice (some ⟨g, 0, none⟩) n cap ∧ v13 = .pointer (some ⟨p19, 0, none⟩) ∧ Aside0 (Grid wc w1.heap.size g n n A C (mulR G p f)) ∧ Aside0 (Bx wc p19 (.bool (ngv f)) (.string (enc f.num.natAbs)) (.string (encD f.den))) ∧ Aside0 (Below w1.heap.size w1 wc))
  case first =>
    go_wp2
    go_loopw [45] (fun v45 wr => ∃ k : Nat, k ≤ n ∧ v45 = .int .i64 k ∧ Aside0 (Grid wr w1.heap.size g n n A C (mulK G p f k)) ∧ Aside0 (Bx wr p19 (.bool (ngv f)) (.string (enc f.num.natAbs)) (.string (encD f.den))) ∧ Aside0 (Below w1.heap.size w1 wr)) (fun v45 _ => n - (intOf v45).toNat)
    case atStart => exact ⟨0, by omega, rfl, HG0, HX, HB⟩
    case round =>
      clear HG0 HX HB
      obtain ⟨k, hk, rfl, HG, HX, HB⟩ := hrel
      by_cases hkm : k < n
      · have E1 := Aside0.mk ((HG.out.rows p hpn).el k hkm)
        have T1 := Aside0.mk (HG.out.top p hpn)
        have d1 : mulK G p f k p k = G p k := by unfold mulK; rw [if_neg (by omega)]
        rw [d1] at E1
        obtain ⟨a, ha⟩ : ∃ a, G p k = a := ⟨_, rfl⟩
        have F1 : Fit 1 a := ha ▸ HF1.out p k
        rw [ha] at E1
        obtain ⟨s, hs⟩ : ∃ s, f * a = s := ⟨_, rfl⟩
        have HML : Aside0 (∀ U V : World, Below U.heap.size U V → Calls Tryd.prog 10 #[rv f, rv a] V fun e w' => e = .returned (rv s) ∧ Below U.heap.size U w') := ⟨fun U V h => hs ▸ Multiply_v h HFF.out F1 (by decide)⟩
        have HSS : Aside0 (f * G p k = s) := ⟨by rw [ha, hs]⟩
        clear d1 ha F1 hs
        go_upto_region 9 with (fail)
        (refine wp_region_below_tail 15 (by kernel_rfl) (by kernel_rfl) ?_); (simp only [List.take_succ_cons, List.take_zero, List.drop_succ_cons, List.drop_zero]); (repeat (refine wpQuiet_step (fun K hK => ?_); go_simp; first | (refine hK _ ?_; clear hK K) | (apply Exists.intro; refine ⟨fun V hV => ?_, hK _ ?_⟩; (focus ((first | rfl | ((with_reducible exact HML.out _ _ hV)) | ((have kx := cell_below hV T1.out); go_simp; first | rfl | fail) | ((have kx := (E1.out.below hV)); have kc0 := kx.c0; have kc1 := kx.c1; have kc2 := kx.c2; clear kx; go_simp; first | rfl | fail) | ((have kx := (HX.out.below hV)); have kc0 := kx.c0; have kc1 := kx.c1; have kc2 := kx.c2; clear kx; go_simp; first | rfl | fail)))); clear hK K))); (refine wpQuiet_nil ?_); (intro V hV)
        replace HG := Aside0.mk (HG.out.below hV)
        replace HB := Aside0.mk (below_step HB.out hV)
        replace HX := Aside0.mk (HX.out.below hV)
        clear hV E1 T1 HML
        have ee := ((HG.out.rows p hpn).el k hkm); have ea0 := ee.c0; have ea1 := ee.c1; have ea2 := ee.c2; clear ee; have eb0 := (HG.out.rows p hpn).fr (k * 3); have eb1 := (HG.out.rows p hpn).fr (k * 3 + 1); have eb2 := (HG.out.rows p hpn).fr (k * 3 + 2)
        go_wp2
        clear ea0 ea1 ea2 eb0 eb1 eb2
        have hc := chg_set3 (S := fun b => b = A p) (b := A p) (o := k * 3) (Chg.refl V _) (.inl rfl) (.bool (ngv s)) (.string (enc s.num.natAbs)) (.string (encD s.den))
        have hg := HG.out.row hpn hc ((HG.out.rows p hpn).set hkm s)
        refine ⟨⟨k + 1, hkm, by go_num, ⟨hg.congr (fun i hi j hj => ?_)⟩, ⟨HX.out.chg hc (fun e => by have := HGP.out.2 p hpn; omega)⟩, ⟨hc.out HB.out (fun y hy => by rw [hy]; have := HGW.out.2 p hpn; omega)⟩⟩, ?_⟩
        · by_cases e : i = p
          · simp only [if_pos e]
            unfold mulK
            by_cases e2 : j = k
            · rw [if_pos e2, if_pos ⟨e, by omega⟩, e2, HSS.out]
            · rw [if_neg e2]
              by_cases e3 : j < k
              · rw [if_pos ⟨rfl, e3⟩, if_pos ⟨e, by omega⟩]
              · rw [if_neg (by omega), if_neg (by omega), e]
          · simp only [if_neg e]
            unfold mulK
            rw [if_neg (by omega), if_neg (by omega)]
        · simp [intOf]; omega
      · obtain rfl : n = k := by omega
        go_wp2
        go_meet
        refine ⟨rfl, rfl, ⟨?_⟩, HX, HB⟩
        refine HG.out.congr (fun i _ j hj => ?_)
        unfold mulK mulR
        by_cases e : i = p
        · rw [if_pos ⟨e, hj⟩, if_pos e]
        · rw [if_neg (by omega), if_neg e]
  case rest =>
    clear HG0 HB HX
    obtain ⟨rfl, rfl, HG, HX, HB⟩ := hcut
    have HMb := Aside0.mk (HG.out.mat' (cap := cap))
    have HMa := Aside0.mk (HM.out.below HB.out)
    have HB0 := Aside0.mk (below_step HBW.out HB.out)
    clear HG HB HM
    go_upto_region 12 with (go_at_call 7; (with_reducible refine (HMX.out _ HB0.out).mono ?_); rintro e w6 ⟨g6, cap6, A6, C6, rfl, hV, hg, hGr⟩; have HGW6 := Aside0.mk hg; have HB6 := Aside0.mk hV; have HG6 := Aside0.mk hGr; clear hV hg hGr)
    obtain ⟨G2, hG2⟩ : ∃ G2, swapR G 0 1 = G2 := ⟨_, rfl⟩
    have HG2 := Aside0.mk hG2
    clear hG2
    go_cut [15] (fun v15 wd => v15 = .slice (some ⟨g6, 0, none⟩) n cap6 ∧ ∃ A' C', Aside0 (Grid wd wc.heap.size g6 n n A' C' G2) ∧ Aside0 (Below wc.heap.size wc wd))
    case first =>
      have hn0 : 0 < n := by omega
      have hn1' : (1 : Int) < (n : Int) := by omega
      have hn0' : (0 : Int) < (n : Int) := by omega
      have t1 := HG6.out.top 0 hn0
      have t2 := HG6.out.top 1 hn1
      have t3 := HG6.out.ftop 0
      have t4 := HG6.out.ftop 1
      have t5 : ∀ v, (w6.setCell ⟨g6, 0, none⟩ v).cell? ⟨g6, 1, none⟩ = some (.slice (some ⟨A6 1, 0, none⟩) n (C6 1)) := fun v => (World.cell?_setCell_other _ _ _ _ (fun h => by injection h with _ h; omega)).trans t2
      go_region
      clear t1 t2 t3 t4 t5
      have hg := (HG6.out.swap hn0 hn1).below (below_drew1 (Below.refl _ _))
      have hc : Chg w6 ((w6.setCell ⟨g6, 0, none⟩ (.slice (some ⟨A6 1, 0, none⟩) n (C6 1))).setCell ⟨g6, 1, none⟩ (.slice (some ⟨A6 0, 0, none⟩) n (C6 0))).drew (fun b => b = g6) := (((Chg.refl w6 (fun b => b = g6)).setCell (p := ⟨g6, 0, none⟩) (.inl rfl) _).setCell (p := ⟨g6, 1, none⟩) (.inl rfl) _).drew
      rw [HG2.out] at hg
      go_wp2
      go_meet
      exact ⟨rfl, _, _, ⟨hg⟩, ⟨hc.out HB6.out (fun y hy => by rw [hy]; exact HGW6.out)⟩⟩
    case rest =>
      clear HG6 HB6
      obtain ⟨rfl, A', C', HG6, HB6⟩ := hcut
      have hn0 : 0 < n := by omega
      have hd2 : dt n (mulR G p f) = f * dt n G := dt_mulR hpn
      have hd3 : dt n G2 = -dt n G := by rw [← HG2.out, dt_swapR hn0 hn1, if_neg (by decide)]
      have hfd := dt_fit hn4 HF1.out
      have hf2 : ∀ i k, Fit 1 (G2 i k) := by
        rw [← HG2.out]; exact swapR_fit HF1.out
      obtain ⟨d, hd⟩ : ∃ d, dt n G = d := ⟨_, rfl⟩
      obtain ⟨fd, hfdd⟩ : ∃ x, f * d = x := ⟨_, rfl⟩
      obtain ⟨nd, hnd⟩ : ∃ x, -d = x := ⟨_, rfl⟩
      rw [hd] at hd2 hd3 hfd
      rw [hfdd] at hd2
      rw [hnd] at hd3
      have HDa : Aside0 (∀ U V : World, Below U.heap.size U V → Mat V (.slice (some ⟨g1, 0, none⟩) n cap1) n (fun _ => n) (rwM G) → Calls Tryd.prog 15 #[.slice (some ⟨g1, 0, none⟩) n cap1] V fun e w' => e = .returned (.tuple #[rv d, .int .i64 0]) ∧ Below U.heap.size U w') := ⟨fun U V h hm => hd ▸ Det_s h hm hn0 hn4 (by decide) (by decide) HF1.out⟩
      have HDb : Aside0 (∀ U V : World, Below U.heap.size U V → Mat V (.slice (some ⟨g, 0, none⟩) n cap) n (fun _ => n) (rwM (mulR G p f)) → Calls Tryd.prog 15 #[.slice (some ⟨g, 0, none⟩) n cap] V fun e w' => e = .returned (.tuple #[rv fd, .int .i64 0]) ∧ Below U.heap.size U w') := ⟨fun U V h hm => hd2 ▸ Det_s h hm hn0 hn4 (by decide) (by decide) (mulR_fit HF1.out HFF.out)⟩
      have HDc : Aside0 (∀ U V : World, Below U.heap.size U V → Mat V (.slice (some ⟨g6, 0, none⟩) n cap6) n (fun _ => n) (rwM G2) → Calls Tryd.prog 15 #[.slice (some ⟨g6, 0, none⟩) n cap6] V fun e w' => e = .returned (.tuple #[rv nd, .int .i64 0]) ∧ Below U.heap.size U w') := ⟨fun U V h hm => hd3 ▸ Det_s h hm hn0 hn4 (by decide) (by decide) hf2⟩
      have HML : Aside0 (∀ U V : World, Below U.heap.size U V → Calls Tryd.prog 10 #[rv f, rv d] V fun e w' => e = .returned (rv fd) ∧ Below U.heap.size U w') := ⟨fun U V h => hfdd ▸ Multiply_v h HFF.out hfd (by decide)⟩
      have HNG : Aside0 (∀ U V : World, Below U.heap.size U V → Calls Tryd.prog 16 #[rv d] V fun e w' => e = .returned (rv nd) ∧ Below U.heap.size U w') := ⟨fun U V h => hnd ▸ Negate_v h hfd (by decide)⟩
      have HMc := Aside0.mk (HG6.out.mat' (cap := cap6))
      replace HMa := Aside0.mk (HMa.out.below HB6.out)
      replace HMb := Aside0.mk (HMb.out.below HB6.out)
      replace HX := Aside0.mk (HX.out.below HB6.out)
      replace HB0 := Aside0.mk (below_step HB0.out HB6.out)
      clear hd2 hd3 hfd hf2 hd hfdd hnd HG6 HB6 HMX HSG
      go_upto_region 14 with (go_at_call 15; (with_reducible refine (HDa.out _ _ (Below.refl _ _) HMa.out).mono ?_); rintro e w7 ⟨rfl, hV⟩; replace HMb := Aside0.mk (HMb.out.below hV); replace HMc := Aside0.mk (HMc.out.below hV); replace HX := Aside0.mk (HX.out.below hV); replace HB0 := Aside0.mk (below_step HB0.out hV); clear hV)
      obtain ⟨p16, hp16⟩ : ∃ x, w7.heap.size = x := ⟨_, rfl⟩
      obtain ⟨w8, hw8, HY, hV⟩ := box1 w7 (.bool (ngv d)) (.string (enc d.num.natAbs)) (.string (encD d.den)) 27
      rw [hw8]
      rw [hp16] at HY ⊢
      replace HMb := Aside0.mk (HMb.out.below hV)
      replace HMc := Aside0.mk (HMc.out.below hV)
      replace HX := Aside0.mk (HX.out.below hV)
      replace HB0 := Aside0.mk (below_step HB0.out hV)
      clear hw8 hp16 hV
      go_upto_region 15 with (go_at_call 15; (with_reducible refine (HDb.out _ _ (Below.refl _ _) HMb.out).mono ?_); rintro e w9 ⟨rfl, hV⟩; replace HMc := Aside0.mk (HMc.out.below hV); replace HX := Aside0.mk (HX.out.below hV); replace HY := Aside0.mk (HY.out.below hV); replace HB0 := Aside0.mk (below_step HB0.out hV); clear hV)
      obtain ⟨p18, hp18⟩ : ∃ x, w9.heap.size = x := ⟨_, rfl⟩
      obtain ⟨w10, hw10, HZ, hV⟩ := box1 w9 (.bool (ngv fd)) (.string (enc fd.num.natAbs)) (.string (encD fd.den)) 27
      rw [hw10]
      rw [hp18] at HZ ⊢
      replace HMc := Aside0.mk (HMc.out.below hV)
      replace HX := Aside0.mk (HX.out.below hV)
      replace HY := Aside0.mk (HY.out.below hV)
      replace HB0 := Aside0.mk (below_step HB0.out hV)
      clear hw10 hp18 hV
      go_upto_region 16 with (go_at_call 15; (with_reducible refine (HDc.out _ _ (Below.refl _ _) HMc.out).mono ?_); rintro e w11 ⟨rfl, hV⟩; replace HX := Aside0.mk (HX.out.below hV); replace HY := Aside0.mk (HY.out.below hV); replace HZ := Aside0.mk (HZ.out.below hV); replace HB0 := Aside0.mk (below_step HB0.out hV); clear hV)
      obtain ⟨p20, hp20⟩ : ∃ x, w11.heap.size = x := ⟨_, rfl⟩
      obtain ⟨w12, hw12, HT, hV⟩ := box1 w11 (.bool (ngv nd)) (.string (enc nd.num.natAbs)) (.string (encD nd.den)) 27
      rw [hw12]
      rw [hp20] at HT ⊢
      replace HX := Aside0.mk (HX.out.below hV)
      replace HY := Aside0.mk (HY.out.below hV)
      replace HZ := Aside0.mk (HZ.out.below hV)
      replace HB0 := Aside0.mk (below_step HB0.out hV)
      clear hw12 hp20 hV HMc HMa HMb
      (refine wp_region_below (by kernel_rfl) (by kernel_rfl) ?_); (repeat (refine wpQuiet_step (fun K hK => ?_); go_simp; first | (refine hK _ ?_; clear hK K) | (apply Exists.intro; refine ⟨fun V hV => ?_, hK _ ?_⟩; (focus ((first | rfl | ((with_reducible exact awake_c hV)) | ((with_reducible exact HML.out _ _ hV)) | ((with_reducible exact HNG.out _ _ hV)) | ((have kx := (HX.out.below hV)); have kc0 := kx.c0; have kc1 := kx.c1; have kc2 := kx.c2; clear kx; go_simp; first | rfl | fail) | ((have kx := (HY.out.below hV)); have kc0 := kx.c0; have kc1 := kx.c1; have kc2 := kx.c2; clear kx; go_simp; first | rfl | fail) | ((have kx := (HZ.out.below hV)); have kc0 := kx.c0; have kc1 := kx.c1; have kc2 := kx.c2; clear kx; go_simp; first | rfl | fail) | ((have kx := (HT.out.below hV)); have kc0 := kx.c0; have kc1 := kx.c1; have kc2 := kx.c2; clear kx; go_simp; first | rfl | fail) | (go_simp; first | rfl | fail)))); clear hK K))); (refine wpQuiet_nil ?_); (intro V hV)
      go_wp2
      go_ret
      exact ⟨rfl, below_step HB0.out hV⟩
end Go.Proofs.YtiamgjepcagohaaDoor.P
end
