/- ClPe: lemmas of this claim, of 5 texts. -/
import Derived.Test.YtiamgjepcagohaaGreatDoorClAri
import Derived.Test.YtiamgjepcagohaaGreatDoorClEch
import Derived.Test.YtiamgjepcagohaaGreatDoorClApp
import Derived.Test.YtiamgjepcagohaaGreatDoorClBar
section
/- Sums, spans and determinants of matrices of rational numbers: plain laws. -/
namespace Go.Proofs.YtiamgjepcagohaaGreatDoor.P
/-! sums -/
def sm (f : Nat → Rat) : Nat → Rat
  | 0 => 0
  | k + 1 => sm f k + f k
theorem sm_congr {f g : Nat → Rat} : ∀ {n : Nat}, (∀ k, k < n → f k = g k) → sm f n = sm g n
  | 0, _ => rfl
  | n + 1, h => by rw [sm, sm, sm_congr (fun k hk => h k (by omega)), h n (by omega)]
theorem sm_zero {f : Nat → Rat} : ∀ {n : Nat}, (∀ k, k < n → f k = 0) → sm f n = 0
  | 0, _ => rfl
  | n + 1, h => by rw [sm, sm_zero (fun k hk => h k (by omega)), h n (by omega), Rat.add_zero]
theorem sm_add (f g : Nat → Rat) : ∀ n : Nat, sm (fun k => f k + g k) n = sm f n + sm g n
  | 0 => (Rat.add_zero 0).symm
  | n + 1 => by simp only [sm]; rw [sm_add f g n]; grind
theorem sm_mul (c : Rat) (f : Nat → Rat) : ∀ n : Nat, sm (fun k => c * f k) n = c * sm f n
  | 0 => by simp [sm]
  | n + 1 => by simp only [sm]; rw [sm_mul c f n]; grind
theorem sm_one {f : Nat → Rat} {t : Nat} : ∀ {n : Nat}, t < n → (∀ k, k < n → k ≠ t → f k = 0) → sm f n = f t
  | 0, h, _ => by omega
  | n + 1, h, h0 => by
    rw [sm]
    by_cases e : t = n
    · subst e
      rw [sm_zero (fun k hk => h0 k (by omega) (by omega)), Rat.zero_add]
    · rw [sm_one (t := t) (by omega) (fun k hk hn => h0 k (by omega) hn), h0 n (by omega) (by omega), Rat.add_zero]
theorem sm_two {f : Nat → Rat} {s t : Nat} (hs : s < t) : ∀ {n : Nat}, t < n → (∀ k, k < n → k ≠ s → k ≠ t → f k = 0) → sm f n = f s + f t
  | 0, h, _ => by omega
  | n + 1, h, h0 => by
    rw [sm]
    by_cases e : t = n
    · subst e
      rw [sm_one (t := s) hs (fun k hk hn => h0 k (by omega) hn (by omega))]
    · rw [sm_two hs (by omega) (fun k hk hn => h0 k (by omega) hn), h0 n (by omega) (by omega) (by omega), Rat.add_zero]

/-! spans -/
/-- v is a combination of the n rows of A (columns below m). -/
def Sp (n m : Nat) (A : Nat → Nat → Rat) (v : Nat → Rat) : Prop := ∃ q : Nat → Rat, ∀ k, k < m → v k = sm (fun t => q t * A t k) n
section
variable {n m : Nat} {A B : Nat → Nat → Rat} {u v : Nat → Rat}
theorem Sp.row {i : Nat} (h : i < n) : Sp n m A (A i) := ⟨fun t => if t = i then 1 else 0, fun k _ => by
  rw [sm_one (t := i) h (fun t _ ht => by simp only [if_neg ht, Rat.zero_mul])]
  simp only [if_true, Rat.one_mul]⟩
theorem Sp.congr (h : Sp n m A u) (e : ∀ k, k < m → v k = u k) : Sp n m A v := by
  obtain ⟨q, hq⟩ := h
  exact ⟨q, fun k hk => (e k hk).trans (hq k hk)⟩
theorem Sp.add (h : Sp n m A u) (g : Sp n m A v) : Sp n m A (fun k => u k + v k) := by
  obtain ⟨q, hq⟩ := h
  obtain ⟨p, hp⟩ := g
  refine ⟨fun t => q t + p t, fun k hk => ?_⟩
  show u k + v k = _
  rw [hq k hk, hp k hk, ← sm_add]
  exact sm_congr (fun t _ => by grind)
theorem Sp.mul (c : Rat) (h : Sp n m A u) : Sp n m A (fun k => c * u k) := by
  obtain ⟨q, hq⟩ := h
  refine ⟨fun t => c * q t, fun k hk => ?_⟩
  show c * u k = _
  rw [hq k hk, ← sm_mul]
  exact sm_congr (fun t _ => by grind)
theorem Sp.trans (h : ∀ i, i < n → Sp n m A (B i)) (g : Sp n m B v) : Sp n m A v := by
  obtain ⟨q, hq⟩ := g
  have hh : ∀ j, j ≤ n → Sp n m A (fun k => sm (fun t => q t * B t k) j) := by
    intro j
    induction j with
    | zero => intro _; exact ⟨fun _ => 0, fun k _ => by rw [sm_zero (fun t _ => Rat.zero_mul _)]; rfl⟩
    | succ j ih => intro hj; exact (ih (by omega)).add ((h j (by omega)).mul (q j))
  exact (hh n (Nat.le_refl _)).congr hq
end
def SpM (n m : Nat) (A B : Nat → Nat → Rat) : Prop := ∀ i, i < n → Sp n m A (B i)
theorem SpM.refl (n m : Nat) (A : Nat → Nat → Rat) : SpM n m A A := fun _ h => Sp.row h
theorem SpM.trans {n m : Nat} {A B C : Nat → Nat → Rat} (h : SpM n m A B) (g : SpM n m B C) : SpM n m A C := fun i hi => Sp.trans h (g i hi)

/-! determinants: along the first column -/
def sgn_ (i : Nat) : Rat := if i % 2 = 0 then 1 else -1
theorem sgn_succ (i : Nat) : sgn_ (i + 1) = -sgn_ i := by
  unfold sgn_
  by_cases h : i % 2 = 0
  · rw [if_pos h, if_neg (by omega)]
  · rw [if_neg h, if_pos (by omega)]; rfl
def skp (i a : Nat) : Nat := if a < i then a else a + 1
def minr (M : Nat → Nat → Rat) (i : Nat) : Nat → Nat → Rat := fun a b => M (skp i a) (b + 1)
def dt : Nat → (Nat → Nat → Rat) → Rat
  | 0, _ => 1
  | n + 1, M => sm (fun i => sgn_ i * M i 0 * dt n (minr M i)) (n + 1)
theorem skp_lt {i a n : Nat} (h : a < n) : skp i a < n + 1 := by unfold skp; split <;> omega
theorem dt_congr : ∀ {n : Nat} {M N : Nat → Nat → Rat}, (∀ i, i < n → ∀ k, k < n → M i k = N i k) → dt n M = dt n N
  | 0, _, _, _ => rfl
  | n + 1, M, N, h => by
    refine sm_congr (fun i hi => ?_)
    have := dt_congr (M := minr M i) (N := minr N i) (fun a ha b hb => h _ (skp_lt ha) _ (by omega))
    rw [h i hi 0 (by omega), this]
def setR (M : Nat → Nat → Rat) (r : Nat) (u : Nat → Rat) : Nat → Nat → Rat := fun i => if i = r then u else M i
theorem setR_at (M : Nat → Nat → Rat) (r : Nat) (u : Nat → Rat) : setR M r u r = u := if_pos rfl
theorem setR_ne {M : Nat → Nat → Rat} {r i : Nat} {u : Nat → Rat} (h : i ≠ r) : setR M r u i = M i := if_neg h
theorem setR_self (M : Nat → Nat → Rat) (r : Nat) : setR M r (M r) = M := by
  funext i
  unfold setR
  split
  · rename_i h; rw [h]
  · rfl
def low (i r : Nat) : Nat := if r < i then r else r - 1
theorem skp_low {i r a : Nat} (h : i ≠ r) : (skp i a = r) ↔ a = low i r := by
  unfold skp low
  split <;> split <;> omega
theorem minr_set {M : Nat → Nat → Rat} {i r : Nat} (u : Nat → Rat) (h : i ≠ r) : minr (setR M r u) i = setR (minr M i) (low i r) (fun b => u (b + 1)) := by
  funext a b
  unfold minr setR
  by_cases e : a = low i r
  · rw [if_pos ((skp_low h).2 e), if_pos e]
  · rw [if_neg (fun h2 => e ((skp_low h).1 h2)), if_neg e]
theorem minr_same {M : Nat → Nat → Rat} {r : Nat} (u : Nat → Rat) : minr (setR M r u) r = minr M r := by
  funext a b
  unfold minr setR
  rw [if_neg (by unfold skp; split <;> omega)]
theorem dt_lin (x y : Rat) : ∀ {n : Nat} {M : Nat → Nat → Rat} {r : Nat} (u v : Nat → Rat), r < n → dt n (setR M r (fun k => x * u k + y * v k)) = x * dt n (setR M r u) + y * dt n (setR M r v)
  | 0, _, _, _, _, h => by omega
  | n + 1, M, r, u, v, h => by
    simp only [dt]
    rw [← sm_mul, ← sm_mul, ← sm_add]
    refine sm_congr (fun i hi => ?_)
    by_cases e : i = r
    · subst e
      rw [setR_at, setR_at, setR_at, minr_same, minr_same, minr_same]
      grind
    · rw [setR_ne e, setR_ne e, setR_ne e, minr_set _ e, minr_set _ e, minr_set _ e, dt_lin x y (fun b => u (b + 1)) (fun b => v (b + 1)) (by unfold low; split <;> omega)]
      grind
theorem dt_adj : ∀ {n : Nat} {M : Nat → Nat → Rat} {p : Nat}, p + 1 < n → (∀ k, M p k = M (p + 1) k) → dt n M = 0
  | 0, _, _, h, _ => by omega
  | n + 1, M, p, h, e => by
    rw [dt, sm_two (s := p) (t := p + 1) (by omega) h]
    · have hm : minr M p = minr M (p + 1) := by
        funext a b
        unfold minr skp
        by_cases h1 : a < p
        · rw [if_pos h1, if_pos (by omega)]
        · by_cases h2 : a = p
          · rw [if_neg h1, if_pos (by omega), h2, e]
          · rw [if_neg h1, if_neg (by omega)]
      rw [hm, e 0, sgn_succ]
      grind
    · intro i hi h1 h2
      rw [dt_adj (p := if p < i then p else p - 1) (by split <;> omega), Rat.mul_zero]
      intro b
      unfold minr skp
      by_cases h3 : p < i
      · rw [if_pos h3, if_pos h3, if_pos (by omega)]; exact e _
      · rw [if_neg h3, if_neg (by omega), if_neg (by omega), show p - 1 + 1 = p by omega]; exact e _
/-- Two rows put in. -/
theorem setR_comm {M : Nat → Nat → Rat} {p q : Nat} {u v : Nat → Rat} (h : p ≠ q) : setR (setR M p u) q v = setR (setR M q v) p u := by
  funext i
  unfold setR
  split
  · rename_i e; rw [if_neg (by omega)]
  · rfl
theorem dt_add {n : Nat} {M : Nat → Nat → Rat} {r : Nat} (u v : Nat → Rat) (h : r < n) : dt n (setR M r (fun k => u k + v k)) = dt n (setR M r u) + dt n (setR M r v) := by
  have := dt_lin 1 1 (M := M) u v h
  simp only [Rat.one_mul] at this
  exact this
/-- If equal rows at p and q give nought, rows there can be exchanged for a sign. -/
theorem dt_exch {n p q : Nat} (hp : p < n) (hq : q < n) (h : p ≠ q) (h0 : ∀ M : Nat → Nat → Rat, (∀ k, M p k = M q k) → dt n M = 0) (M : Nat → Nat → Rat) (u v : Nat → Rat) :
    dt n (setR (setR M p u) q v) = -dt n (setR (setR M p v) q u) := by
  have e1 := h0 (setR (setR M p (fun k => u k + v k)) q (fun k => u k + v k)) (fun k => by rw [setR_ne h, setR_at, setR_at])
  have e2 := h0 (setR (setR M p u) q u) (fun k => by rw [setR_ne h, setR_at, setR_at])
  have e3 := h0 (setR (setR M p v) q v) (fun k => by rw [setR_ne h, setR_at, setR_at])
  rw [dt_add u v hq, setR_comm h, setR_comm h, dt_add u v hp, dt_add u v hp, ← setR_comm h, ← setR_comm h, ← setR_comm h, ← setR_comm h, e2, e3] at e1
  grind
theorem dt_two : ∀ (d : Nat) {n p : Nat} {M : Nat → Nat → Rat}, p + 1 + d < n → (∀ k, M p k = M (p + 1 + d) k) → dt n M = 0
  | 0, n, p, M, h, e => dt_adj h e
  | d + 1, n, p, M, h, e => by
    have h1 := dt_exch (n := n) (p := p + 1 + d) (q := p + 1 + (d + 1)) (by omega) h (by omega) (fun M h2 => dt_adj (p := p + 1 + d) (by omega) h2) M (M (p + 1 + d)) (M (p + 1 + (d + 1)))
    rw [setR_self, setR_self] at h1
    rw [h1, dt_two d (p := p) (by omega)]
    · rfl
    · intro k
      rw [setR_ne (by omega), setR_ne (by omega), setR_ne (by omega), setR_at, e]
theorem dt_eq {n p q : Nat} {M : Nat → Nat → Rat} (hp : p < n) (hq : q < n) (h : p ≠ q) (e : ∀ k, M p k = M q k) : dt n M = 0 := by
  rcases Nat.lt_or_gt_of_ne h with hl | hl
  · obtain ⟨d, rfl⟩ : ∃ d, q = p + 1 + d := ⟨q - p - 1, by omega⟩
    exact dt_two d hq e
  · obtain ⟨d, rfl⟩ : ∃ d, p = q + 1 + d := ⟨p - q - 1, by omega⟩
    exact dt_two d hp (fun k => (e k).symm)
theorem dt_swap {n p q : Nat} {M : Nat → Nat → Rat} (hp : p < n) (hq : q < n) (h : p ≠ q) : dt n (setR (setR M p (M q)) q (M p)) = -dt n M := by
  have := dt_exch hp hq h (fun M h2 => dt_eq hp hq h h2) M (M q) (M p)
  rw [setR_self, setR_self] at this
  exact this
theorem dt_scale {n r : Nat} {M : Nat → Nat → Rat} (c : Rat) (u : Nat → Rat) (hr : r < n) : dt n (setR M r (fun k => c * u k)) = c * dt n (setR M r u) := by
  have := dt_lin c 0 (M := M) u u hr
  simp only [Rat.zero_mul, Rat.add_zero] at this
  exact this
theorem dt_row0 {n r : Nat} {M : Nat → Nat → Rat} (hr : r < n) (h : ∀ k, k < n → M r k = 0) : dt n M = 0 := by
  have := dt_scale (M := M) 0 (M r) hr
  rw [setR_self, Rat.zero_mul] at this
  rw [← this]
  refine dt_congr (fun i _ k hk => ?_)
  by_cases e : i = r
  · subst e; rw [setR_at, h k hk, Rat.zero_mul]
  · rw [setR_ne e]
/-- A multiple of a row taken from another one. -/
theorem dt_sub {n r j : Nat} {M : Nat → Nat → Rat} (f : Rat) (hr : r < n) (hj : j < n) (h : j ≠ r) : dt n (setR M j (fun k => M j k - f * M r k)) = dt n M := by
  have h1 := dt_lin 1 (-f) (M := M) (M j) (M r) hj
  rw [setR_self, dt_eq (M := setR M j (M r)) hj hr h (fun k => by rw [setR_at, setR_ne (Ne.symm h)])] at h1
  rw [show (fun k => M j k - f * M r k) = (fun k => 1 * M j k + -f * M r k) from funext fun k => by grind, h1]
  grind
theorem dt_id : ∀ {n : Nat} {M : Nat → Nat → Rat}, (∀ i, i < n → ∀ k, k < n → M i k = if i = k then 1 else 0) → dt n M = 1
  | 0, _, _ => rfl
  | n + 1, M, h => by
    rw [dt, sm_one (t := 0) (by omega) (fun i hi h0 => by rw [h i hi 0 (by omega), if_neg h0, Rat.mul_zero, Rat.zero_mul]), h 0 (by omega) 0 (by omega), if_pos rfl,
      dt_id (fun a ha b hb => by
        show M (skp 0 a) (b + 1) = _
        rw [show skp 0 a = a + 1 by unfold skp; rw [if_neg (by omega)], h _ (by omega) _ (by omega)]
        by_cases e : a = b
        · rw [if_pos (by omega), if_pos e]
        · rw [if_neg (by omega), if_neg e])]
    show (1 : Rat) * 1 * 1 = 1
    rw [Rat.mul_one, Rat.mul_one]
end Go.Proofs.YtiamgjepcagohaaGreatDoor.P
end
section
/- The reduced row echelon form and that it is one alone: plain laws. -/
namespace Go.Proofs.YtiamgjepcagohaaGreatDoor.P
open Go Go.Proofs.YtiamgjepcagohaaGreatDoor.Ari
/-! the reduced row echelon form -/
structure Rf (n m c : Nat) (G : Gr) (p : List Nat) : Prop where
  ple : p.length ≤ n
  lt : ∀ t, t < p.length → p.getD t 0 < c
  cm : c ≤ m
  inc : ∀ s t, s < t → t < p.length → p.getD s 0 < p.getD t 0
  one : ∀ t, t < p.length → G t (p.getD t 0) = 1
  zero : ∀ t, t < p.length → ∀ i, i < n → i ≠ t → G i (p.getD t 0) = 0
  lead : ∀ t, t < p.length → ∀ k, k < p.getD t 0 → G t k = 0
  rest : ∀ i, p.length ≤ i → i < n → ∀ k, k < c → G i k = 0
theorem Rf.start (n m : Nat) (G : Gr) : Rf n m 0 G [] := ⟨Nat.zero_le _, fun t h => absurd h (Nat.not_lt_zero _), Nat.zero_le _, fun s t _ h => absurd h (Nat.not_lt_zero _), fun t h => absurd h (Nat.not_lt_zero _), fun t h => absurd h (Nat.not_lt_zero _), fun t h => absurd h (Nat.not_lt_zero _), fun i _ _ k h => absurd h (Nat.not_lt_zero _)⟩
theorem getD_app (p : List Nat) (c t : Nat) : (p ++ [c]).getD t 0 = if t < p.length then p.getD t 0 else if t = p.length then c else 0 := by
  by_cases h : t < p.length
  · rw [if_pos h]
    simp [List.getD_eq_getElem?_getD, List.getElem?_append_left h]
  · rw [if_neg h]
    by_cases e : t = p.length
    · rw [if_pos e, e]; simp [List.getD_eq_getElem?_getD]
    · rw [if_neg e]
      rw [List.getD_eq_getElem?_getD, List.getElem?_eq_none (by simp; omega)]; rfl
theorem swap_other {G : Gr} {i j k : Nat} (h1 : k ≠ i) (h2 : k ≠ j) : swapR G i j k = G k := by
  unfold swapR; rw [if_neg h1, if_neg h2]
theorem Rf.skip {n m c : Nat} {G : Gr} {p : List Nat} (h : Rf n m c G p) (hc : c < m) (h0 : ∀ i, p.length ≤ i → i < n → G i c = 0) : Rf n m (c + 1) G p :=
  ⟨h.ple, fun t ht => Nat.lt_succ_of_lt (h.lt t ht), hc, h.inc, h.one, h.zero, h.lead, fun i h1 h2 k hk => by
    by_cases e : k = c
    · rw [e]; exact h0 i h1 h2
    · exact h.rest i h1 h2 k (by omega)⟩
theorem Rf.step {n m c a : Nat} {S : St} (h : Rf n m c S.G S.piv) (hc : c < m) (h1 : S.piv.length ≤ a) (h2 : a < n) (h3 : S.G a c ≠ 0) : Rf n m (c + 1) (stepAt c a S).G (stepAt c a S).piv := by
  obtain ⟨G, p, pr⟩ := S
  simp only at h h1 h3
  show Rf n m (c + 1) (clearR (scaleR (swapR G a p.length) p.length c) p.length c) (p ++ [c])
  obtain ⟨r, hr⟩ : ∃ r, p.length = r := ⟨_, rfl⟩
  have hpl : (p ++ [c]).length = r + 1 := by rw [List.length_append, hr]; rfl
  have hg := getD_app p c
  rw [hr] at hg h1 ⊢
  have hsr : swapR G a r r = G a := swap_at G a r
  have hlow : ∀ t, t < r → swapR G a r t = G t := fun t ht => swap_other (by omega) (by omega)
  have hhi : ∀ i, r ≤ i → i < n → ∃ i', r ≤ i' ∧ i' < n ∧ swapR G a r i = G i' := by
    intro i hi hn
    unfold swapR
    split
    · exact ⟨r, Nat.le_refl _, by omega, rfl⟩
    · split
      · exact ⟨a, h1, h2, rfl⟩
      · exact ⟨i, hi, hn, rfl⟩
  generalize swapR G a r = G1 at hsr hlow hhi
  have e2r : ∀ k, scaleR G1 r c r k = G a k / G a c := fun k => by show (if r = r then G1 r k / G1 r c else _) = _; rw [if_pos rfl, hsr]
  have e2o : ∀ i, i ≠ r → ∀ k, scaleR G1 r c i k = G1 i k := fun i hi k => by show (if i = r then _ else _) = _; rw [if_neg hi]
  generalize scaleR G1 r c = G2 at e2r e2o
  have e3r : ∀ k, clearR G2 r c r k = G a k / G a c := fun k => by show (if r = r then _ else _) = _; rw [if_pos rfl, e2r]
  have e3o : ∀ i, i ≠ r → ∀ k, clearR G2 r c i k = G1 i k - G1 i c * (G a k / G a c) := fun i hi k => by show (if i = r then _ else _) = _; rw [if_neg hi, e2o i hi, e2o i hi, e2r]
  generalize clearR G2 r c = G3 at e3r e3o
  have ga0 : ∀ k, k < c → G a k = 0 := fun k hk => h.rest a (by omega) h2 k hk
  have gp : ∀ t, t < r → G a (p.getD t 0) = 0 := fun t ht => ga0 _ (h.lt t (by omega))
  have hd1 : G a c / G a c = 1 := by rw [Rat.div_def, Rat.mul_inv_cancel _ h3]
  have hz0 : ∀ x : Rat, (0 : Rat) / x = 0 := fun x => by rw [Rat.div_def, Rat.zero_mul]
  refine ⟨by rw [hpl]; omega, ?_, by omega, ?_, ?_, ?_, ?_, ?_⟩
  · intro t ht
    rw [hg]
    split
    · have := h.lt t (by omega); omega
    · split <;> omega
  · intro s t hs ht
    rw [hpl] at ht
    rw [hg, hg, if_pos (by omega)]
    split
    · exact h.inc s t hs (by omega)
    · rw [if_pos (by omega)]; exact h.lt s (by omega)
  · intro t ht
    rw [hpl] at ht
    rw [hg]
    by_cases e : t = r
    · rw [if_neg (by omega), if_pos e, e, e3r, hd1]
    · have htr : t < r := by omega
      rw [if_pos htr, e3o t e, gp t htr, hz0, Rat.mul_zero, hlow t htr, h.one t (by omega)]
      grind
  · intro t ht i hi hit
    rw [hpl] at ht
    rw [hg]
    by_cases e : t = r
    · rw [if_neg (by omega), if_pos e, e3o i (by omega), hd1]
      grind
    · have htr : t < r := by omega
      rw [if_pos htr]
      by_cases ei : i = r
      · rw [ei, e3r, gp t htr, hz0]
      · rw [e3o i ei, gp t htr, hz0, Rat.mul_zero]
        have : G1 i (p.getD t 0) = 0 := by
          by_cases hl : i < r
          · rw [hlow i hl]; exact h.zero t (by omega) i hi hit
          · obtain ⟨i', h5, h6, h7⟩ := hhi i (by omega) hi
            rw [h7]; exact h.zero t (by omega) i' h6 (by omega)
        rw [this]; grind
  · intro t ht k hk
    rw [hpl] at ht
    rw [hg] at hk
    by_cases e : t = r
    · rw [if_neg (by omega), if_pos e] at hk
      rw [e, e3r, ga0 k hk, hz0]
    · have htr : t < r := by omega
      rw [if_pos htr] at hk
      have := h.lt t (by omega)
      rw [e3o t e, ga0 k (by omega), hz0, Rat.mul_zero, hlow t htr, h.lead t (by omega) k hk]
      grind
  · intro i hi hn k hk
    rw [hpl] at hi
    have e : i ≠ r := by omega
    obtain ⟨i', h5, h6, h7⟩ := hhi i (by omega) hn
    rw [e3o i e, h7]
    by_cases ek : k = c
    · rw [ek, hd1]; grind
    · rw [ga0 k (by omega), hz0, h.rest i' (by omega) h6 k (by omega)]; grind

/-! spans -/
section
variable {n m c a r : Nat} {G : Gr}
theorem sp_swap (ha : a < n) (hr : r < n) : SpM n m G (swapR G a r) ∧ SpM n m (swapR G a r) G := by
  constructor
  · intro i hi
    unfold swapR
    split
    · exact Sp.row hr
    · split
      · exact Sp.row ha
      · exact Sp.row hi
  · intro i hi
    by_cases e : i = a
    · refine Sp.congr (Sp.row hr) (fun k _ => ?_)
      rw [e, swap_at]
    · by_cases e2 : i = r
      · refine Sp.congr (Sp.row (i := a) ha) (fun k _ => ?_)
        rw [e2]; unfold swapR; rw [if_pos rfl]
      · refine Sp.congr (Sp.row hi) (fun k _ => ?_)
        rw [swap_other e e2]
theorem sp_scale (hr : r < n) (h : G r c ≠ 0) : SpM n m G (scaleR G r c) ∧ SpM n m (scaleR G r c) G := by
  have e1 : ∀ k, scaleR G r c r k = G r k / G r c := fun k => by show (if r = r then _ else _) = _; rw [if_pos rfl]
  have e2 : ∀ i, i ≠ r → ∀ k, scaleR G r c i k = G i k := fun i hi k => by show (if i = r then _ else _) = _; rw [if_neg hi]
  constructor
  · intro i hi
    by_cases e : i = r
    · refine Sp.congr (Sp.mul (G r c)⁻¹ (Sp.row hr)) (fun k _ => ?_)
      rw [e, e1, Rat.div_def, Rat.mul_comm]
    · exact Sp.congr (Sp.row hi) (fun k _ => e2 i e k)
  · intro i hi
    by_cases e : i = r
    · refine Sp.congr (Sp.mul (G r c) (Sp.row hr)) (fun k _ => ?_)
      rw [e, e1, Rat.mul_comm, Rat.div_mul_cancel h]
    · exact Sp.congr (Sp.row hi) (fun k _ => (e2 i e k).symm)
theorem sp_clear (hr : r < n) : SpM n m G (clearR G r c) ∧ SpM n m (clearR G r c) G := by
  have e1 : ∀ k, clearR G r c r k = G r k := fun k => by show (if r = r then _ else _) = _; rw [if_pos rfl]
  have e2 : ∀ i, i ≠ r → ∀ k, clearR G r c i k = G i k - G i c * G r k := fun i hi k => by show (if i = r then _ else _) = _; rw [if_neg hi]
  constructor
  · intro i hi
    by_cases e : i = r
    · refine Sp.congr (Sp.row hr) (fun k _ => by rw [e, e1])
    · refine Sp.congr (Sp.add (Sp.row hi) (Sp.mul (-(G i c)) (Sp.row hr))) (fun k _ => ?_)
      rw [e2 i e]; grind
  · intro i hi
    by_cases e : i = r
    · refine Sp.congr (Sp.row hr) (fun k _ => by rw [e, e1])
    · refine Sp.congr (Sp.add (Sp.row hi) (Sp.mul (G i c) (Sp.row hr))) (fun k _ => ?_)
      rw [e2 i e, e1]; grind
end
/-- What the elimination keeps. -/
structure Fm (n m : Nat) (A : Gr) (S : St) : Prop where
  fwd : SpM n m A S.G
  bwd : SpM n m S.G A
theorem Fm.step {n m c a : Nat} {A : Gr} {S : St} (h : Fm n m A S) (hr : S.piv.length < n) (ha : a < n) (hp : S.G a c ≠ 0) : Fm n m A (stepAt c a S) := by
  have h1 := sp_swap (m := m) (G := S.G) ha hr
  have hz : swapR S.G a S.piv.length S.piv.length c ≠ 0 := by rw [swap_at]; exact hp
  have h2 := sp_scale (m := m) hr hz
  have h3 := sp_clear (m := m) (c := c) (G := scaleR (swapR S.G a S.piv.length) S.piv.length c) hr
  exact ⟨((h.fwd.trans h1.1).trans h2.1).trans h3.1, ((h3.2.trans h2.2).trans h1.2).trans h.bwd⟩
theorem Rf.widen {n m c d : Nat} {G : Gr} {p : List Nat} (h : Rf n m c G p) (hl : ¬ p.length < n) (hd : c ≤ d) (hm : d ≤ m) : Rf n m d G p :=
  ⟨h.ple, fun t ht => by have := h.lt t ht; omega, hm, h.inc, h.one, h.zero, h.lead, fun i h1 h2 => by omega⟩
theorem ech_keeps {n m cols : Nat} {A : Gr} (hcm : cols ≤ m) : ∀ (f c : Nat) (S : St), c + f = cols → Rf n m c S.G S.piv → Fm n m A S → Rf n m cols (ech n f c S).G (ech n f c S).piv ∧ Fm n m A (ech n f c S)
  | 0, c, S, hc, h, g => by
    obtain rfl : c = cols := by omega
    exact ⟨h, g⟩
  | f + 1, c, S, hc, h, g => by
    rw [ech]
    by_cases hl : S.piv.length < n
    · rw [if_pos hl]
      refine ech_keeps hcm f (c + 1) _ (by omega) ?_ ?_
      · unfold estep
        split
        · rename_i hp
          exact h.skip (by omega) (fun i h1 h2 => pvf_none hp i h1 (by omega))
        · rename_i a hp
          have := pvf_some hp
          exact h.step (by omega) this.1 (by omega) this.2.2
      · unfold estep
        split
        · exact g
        · rename_i a hp
          have := pvf_some hp
          exact g.step hl (by omega) this.2.2
    · rw [if_neg hl]
      exact ⟨h.widen hl (by omega) hcm, g⟩
theorem ech_form_c (n m cols : Nat) (A : Gr) (h : cols ≤ m) : Rf n m cols (ech n cols 0 ⟨A, [], 1⟩).G (ech n cols 0 ⟨A, [], 1⟩).piv ∧ Fm n m A (ech n cols 0 ⟨A, [], 1⟩) :=
  ech_keeps h cols 0 _ (by omega) (Rf.start n m A) ⟨SpM.refl _ _ _, SpM.refl _ _ _⟩
theorem ech_form (n m : Nat) (A : Gr) : Rf n m m (ech n m 0 ⟨A, [], 1⟩).G (ech n m 0 ⟨A, [], 1⟩).piv ∧ Fm n m A (ech n m 0 ⟨A, [], 1⟩) :=
  ech_form_c n m m A (Nat.le_refl _)

/-! one form alone -/
section
variable {n m : Nat} {F F' : Gr} {p p' : List Nat}
end
end Go.Proofs.YtiamgjepcagohaaGreatDoor.P
end
section
/- The determinant and the kernel, as the elimination finds them: plain laws. -/
namespace Go.Proofs.YtiamgjepcagohaaGreatDoor.P
open Go Go.Proofs.YtiamgjepcagohaaGreatDoor.Ari
/-! the determinant, as the elimination finds it -/
section
variable {n m c a r : Nat} {G : Gr}
theorem swapR_set (h : a ≠ r) : swapR G a r = setR (setR G a (G r)) r (G a) := by
  funext i
  unfold swapR setR
  by_cases e : i = a
  · rw [if_pos e, if_neg (by omega), if_pos e]
  · rw [if_neg e, if_neg e]
theorem dt_swapR (ha : a < n) (hr : r < n) : dt n (swapR G a r) = if a = r then dt n G else -dt n G := by
  by_cases e : a = r
  · rw [if_pos e, e, swap_self]
  · rw [if_neg e, swapR_set e, dt_swap ha hr e]
theorem dt_scaleR (hr : r < n) (h : G r c ≠ 0) : G r c * dt n (scaleR G r c) = dt n G := by
  have e : scaleR G r c = setR G r (fun k => (G r c)⁻¹ * G r k) := by
    funext i
    unfold scaleR setR
    by_cases e : i = r
    · rw [if_pos e]
      funext k
      rw [if_pos e, Rat.div_def, Rat.mul_comm]
    · rw [if_neg e]
      funext k
      rw [if_neg e]
  rw [e, dt_scale _ _ hr, setR_self, ← Rat.mul_assoc, Rat.mul_inv_cancel _ h, Rat.one_mul]
/-- The rows below j are cleared. -/
def clearB (G : Gr) (r c j : Nat) : Gr := fun i k => if i < j ∧ i ≠ r then G i k - G i c * G r k else G i k
theorem dt_clearB (hr : r < n) : ∀ j, j ≤ n → dt n (clearB G r c j) = dt n G
  | 0, _ => dt_congr (fun i _ k _ => by unfold clearB; rw [if_neg (by omega)])
  | j + 1, hj => by
    rw [← dt_clearB hr j (by omega)]
    by_cases e : j = r
    · refine dt_congr (fun i _ k _ => ?_)
      unfold clearB
      by_cases e2 : i < j ∧ i ≠ r
      · rw [if_pos e2, if_pos ⟨by omega, e2.2⟩]
      · rw [if_neg e2, if_neg (by omega)]
    · rw [← dt_sub (M := clearB G r c j) (G j c) hr (show j < n by omega) e]
      refine dt_congr (fun i _ k _ => ?_)
      by_cases e1 : i = j
      · subst e1
        rw [setR_at]
        unfold clearB
        rw [if_pos ⟨by omega, e⟩, if_neg (by omega), if_neg (by omega)]
      · rw [setR_ne e1]
        unfold clearB
        by_cases e2 : i < j ∧ i ≠ r
        · rw [if_pos e2, if_pos ⟨by omega, e2.2⟩]
        · rw [if_neg e2, if_neg (by omega)]
theorem dt_clearR (hr : r < n) : dt n (clearR G r c) = dt n G := by
  rw [← dt_clearB (c := c) (G := G) hr n (Nat.le_refl _)]
  refine dt_congr (fun i hi k _ => ?_)
  unfold clearR clearB
  by_cases e : i = r
  · rw [if_pos e, if_neg (by omega)]
  · rw [if_neg e, if_pos ⟨hi, e⟩]
end
theorem dt_step {n c a : Nat} {S : St} (hr : S.piv.length < n) (ha : a < n) (hp : S.G a c ≠ 0) : (stepAt c a S).pr * dt n (stepAt c a S).G = S.pr * dt n S.G := by
  have hz : swapR S.G a S.piv.length S.piv.length c = S.G a c := by rw [swap_at]
  have h1 := dt_swapR (G := S.G) ha hr
  have h2 := dt_scaleR (G := swapR S.G a S.piv.length) (c := c) hr (by rw [hz]; exact hp)
  rw [hz] at h2
  show ((if a = S.piv.length then S.pr else -S.pr) * S.G a c) * dt n (clearR (scaleR (swapR S.G a S.piv.length) S.piv.length c) S.piv.length c) = _
  rw [dt_clearR hr, Rat.mul_assoc, h2, h1]
  split
  · rfl
  · grind
theorem dt_ech {n : Nat} {x : Rat} : ∀ (f c : Nat) (S : St), S.pr * dt n S.G = x → (ech n f c S).pr * dt n (ech n f c S).G = x
  | 0, c, S, h => h
  | f + 1, c, S, h => by
    rw [ech]
    by_cases hl : S.piv.length < n
    · rw [if_pos hl]
      refine dt_ech f (c + 1) _ ?_
      unfold estep
      split
      · exact h
      · rename_i a hp
        have := pvf_some hp
        rw [dt_step hl (by omega) this.2.2]
        exact h
    · rw [if_neg hl]; exact h
theorem inc_ge {p : List Nat} (h : ∀ s t, s < t → t < p.length → p.getD s 0 < p.getD t 0) : ∀ t, t < p.length → t ≤ p.getD t 0
  | 0, _ => Nat.zero_le _
  | t + 1, ht => by
    have h1 := inc_ge h t (by omega)
    have h2 := h t (t + 1) (by omega) ht
    omega
theorem Rf.full {n : Nat} {G : Gr} {p : List Nat} (h : Rf n n n G p) (hp : p.length = n) : ∀ t, t < n → p.getD t 0 = t := by
  have h1 := inc_ge h.inc
  have h2 : ∀ d t, t + d + 1 = n → p.getD t 0 ≤ t := by
    intro d
    induction d with
    | zero => intro t ht; have := h.lt t (by omega); omega
    | succ d ih =>
      intro t ht
      have := ih (t + 1) (by omega)
      have := h.inc t (t + 1) (by omega) (by omega)
      omega
  intro t ht
  have := h1 t (by omega)
  have := h2 (n - t - 1) t (by omega)
  omega
/-- What the program answers is the determinant. -/
theorem det_ech (n : Nat) (A : Gr) : (if (ech n n 0 ⟨A, [], 1⟩).piv.length < n then 0 else (ech n n 0 ⟨A, [], 1⟩).pr) = dt n A := by
  have hd := dt_ech (n := n) n 0 ⟨A, [], 1⟩ (x := dt n A) (Rat.one_mul _)
  obtain ⟨hf, hs⟩ := ech_form n n A
  generalize ech n n 0 ⟨A, [], 1⟩ = S at *
  rw [← hd]
  by_cases hl : S.piv.length < n
  · rw [if_pos hl, dt_row0 (r := S.piv.length) hl (fun k hk => hf.rest _ (Nat.le_refl _) hl k hk), Rat.mul_zero]
  · rw [if_neg hl]
    have hp : S.piv.length = n := by have := hf.ple; omega
    have hfull := hf.full hp
    rw [dt_id (M := S.G), Rat.mul_one]
    intro i hi k hk
    by_cases e : i = k
    · subst e
      rw [if_pos rfl]
      have := hf.one i (by omega)
      rwa [hfull i hi] at this
    · rw [if_neg e]
      have := hf.zero k (by omega) i hi e
      rwa [hfull k hk] at this

/-! the kernel -/
theorem dot_sm (e x : Nat → Rat) : ∀ m, dot e x m = sm (fun k => e k * x k) m
  | 0 => rfl
  | m + 1 => by rw [dot, sm, dot_sm e x m]
end Go.Proofs.YtiamgjepcagohaaGreatDoor.P
end
section
/- The elimination without fractions and the one with them, side by side: plain laws. -/
namespace Go.Proofs.YtiamgjepcagohaaGreatDoor.P
open Go Go.Proofs.YtiamgjepcagohaaGreatDoor.Ari
/-! integers among the rational numbers; their determinants -/
def II (x : Rat) : Prop := ∃ z : Int, x = (z : Rat)
theorem II.zero : II 0 := ⟨0, rfl⟩
theorem II.one : II 1 := ⟨1, rfl⟩
theorem II.add {x y : Rat} (h : II x) (g : II y) : II (x + y) := by
  obtain ⟨a, rfl⟩ := h
  obtain ⟨b, rfl⟩ := g
  exact ⟨a + b, (Rat.intCast_add a b).symm⟩
theorem II.mul {x y : Rat} (h : II x) (g : II y) : II (x * y) := by
  obtain ⟨a, rfl⟩ := h
  obtain ⟨b, rfl⟩ := g
  exact ⟨a * b, (Rat.intCast_mul a b).symm⟩
theorem II.sm {f : Nat → Rat} : ∀ {n : Nat}, (∀ k, k < n → II (f k)) → II (sm f n)
  | 0, _ => II.zero
  | n + 1, h => (II.sm (fun k hk => h k (by omega))).add (h n (by omega))
theorem II.sgn (i : Nat) : II (sgn_ i) := by
  unfold sgn_
  split
  · exact II.one
  · exact ⟨-1, rfl⟩
theorem II.dt : ∀ {n : Nat} {M : Nat → Nat → Rat}, (∀ i, i < n → ∀ k, k < n → II (M i k)) → II (dt n M)
  | 0, _, _ => II.one
  | n + 1, M, h => II.sm (fun i hi => ((II.sgn i).mul (h i hi 0 (by omega))).mul (II.dt (fun a ha b hb => h _ (skp_lt ha) _ (by omega))))
theorem dt_last : ∀ {n : Nat} {M : Nat → Nat → Rat}, (∀ k, k < n + 1 → M n k = if k = n then 1 else 0) → dt (n + 1) M = dt n M
  | 0, M, h => by
    show (0 : Rat) + (1 * M 0 0 * 1) = 1
    rw [h 0 (by omega), if_pos rfl]; grind
  | n + 1, M, h => by
    rw [dt, sm, h 0 (by omega), if_neg (by omega), Rat.mul_zero, Rat.zero_mul, Rat.add_zero]
    show _ = sm (fun i => sgn_ i * M i 0 * dt n (minr M i)) (n + 1)
    refine sm_congr (fun i hi => ?_)
    rw [dt_last (M := minr M i) (fun k hk => by
      unfold minr
      rw [show skp i n = n + 1 by unfold skp; rw [if_neg (by omega)], h _ (by omega)]
      by_cases e : k = n
      · rw [if_pos (by omega), if_pos e]
      · rw [if_neg (by omega), if_neg e])]
theorem dt_comb {n r : Nat} {M : Nat → Nat → Rat} (hr : r < n) (q : Nat → Rat) (U : Nat → Nat → Rat) : ∀ T, dt n (setR M r (fun k => sm (fun t => q t * U t k) T)) = sm (fun t => q t * dt n (setR M r (U t))) T
  | 0 => dt_row0 hr (fun k _ => by rw [setR_at]; rfl)
  | T + 1 => by
    have h := dt_lin 1 (q T) (M := M) (fun k => sm (fun t => q t * U t k) T) (U T) hr
    rw [dt_comb hr q U T, Rat.one_mul] at h
    rw [sm, ← h]
    congr 1
    congr 1
    funext k
    rw [sm, Rat.one_mul]

/-! the elimination without fractions -/
structure BR (n k : Nat) (P H : Gr) (l : Rat) : Prop where
  kn : k ≤ n
  r1 : ∀ i, i < k → ∀ j, j < n + 1 → P i j = sm (fun t => P i t * H t j) k
  r2 : ∀ i, k ≤ i → i < n → ∀ j, j < n + 1 → P i j = sm (fun t => P i t * H t j) k + H i j
  r3 : l = dt k (fun a b => P b a)
  int : ∀ i, i < n → ∀ j, j < n + 1 → II (P i j)
section
variable {n k : Nat} {P H : Gr} {l : Rat}
theorem BR.schur (h : BR n k P H l) {i j : Nat} (hi : k ≤ i) (hin : i < n) (hj : j < n + 1) :
    dt (k + 1) (fun a b => P (if b < k then b else i) (if a < k then a else j)) = l * H i j := by
  obtain ⟨Q, hQ⟩ : ∃ Q : Gr, Q = fun a b => P (if b < k then b else i) (if a < k then a else j) := ⟨_, rfl⟩
  have hrow : ∀ b, b < k + 1 → Q k b = sm (fun t => H t j * Q t b) k + H i j * (if b = k then 1 else 0) := by
    intro b hb
    have e : sm (fun t => H t j * Q t b) k = sm (fun t => P (if b < k then b else i) t * H t j) k := sm_congr (fun t ht => by rw [hQ]; simp only [if_pos ht]; rw [Rat.mul_comm])
    rw [e, hQ]
    simp only [Nat.lt_irrefl, if_false]
    by_cases hbk : b < k
    · rw [if_pos hbk, if_neg (by omega), Rat.mul_zero, Rat.add_zero]
      exact h.r1 b hbk j hj
    · rw [if_neg hbk, if_pos (by omega), Rat.mul_one]
      exact h.r2 i hi hin j hj
  rw [← hQ, ← setR_self Q k]
  have e1 : dt (k + 1) (setR Q k (Q k)) = dt (k + 1) (setR Q k (fun b => 1 * sm (fun t => H t j * Q t b) k + H i j * (if b = k then 1 else 0))) := by
    refine dt_congr (fun a ha b hb => ?_)
    by_cases e : a = k
    · subst e; rw [setR_at, setR_at, hrow b hb, Rat.one_mul]
    · rw [setR_ne e, setR_ne e]
  rw [e1, dt_lin 1 (H i j) (fun b => sm (fun t => H t j * Q t b) k) (fun b => if b = k then 1 else 0) (Nat.lt_succ_self k), dt_comb (Nat.lt_succ_self k)]
  rw [sm_zero (fun t ht => by
    rw [dt_eq (p := t) (q := k) (by omega) (by omega) (by omega) (fun b => by rw [setR_at, setR_ne (by omega)]), Rat.mul_zero]), dt_last (fun b hb => by rw [setR_at])]
  rw [dt_congr (n := k) (N := fun a b => P b a) (fun a ha b hb => by rw [setR_ne (by omega), hQ]; simp only [if_pos ha, if_pos hb]), ← h.r3]
  grind
theorem BR.entry (h : BR n k P H l) {i j : Nat} (hin : i < n) (hj : j < n + 1) : II (l * H i j) := by
  have hkn := h.kn
  by_cases hi : i < k
  · have e : dt k (setR (fun a b => P b a) i (fun b => P b j)) = l * H i j := by
      have e1 : dt k (setR (fun a b => P b a) i (fun b => P b j)) = dt k (setR (fun a b => P b a) i (fun b => sm (fun t => H t j * P b t) k)) := by
        refine dt_congr (fun a ha b hb => ?_)
        by_cases e : a = i
        · subst e
          rw [setR_at, setR_at, h.r1 b hb j hj]
          exact sm_congr (fun t _ => Rat.mul_comm _ _)
        · rw [setR_ne e, setR_ne e]
      rw [e1, dt_comb hi (fun t => H t j) (fun t b => P b t), sm_one hi (fun t ht hti => by
        rw [dt_eq (p := i) (q := t) hi ht (Ne.symm hti) (fun b => by rw [setR_at, setR_ne hti]), Rat.mul_zero])]
      rw [setR_self (fun a b => P b a) i, ← h.r3, Rat.mul_comm]
    rw [← e]
    refine II.dt (fun a ha b hb => ?_)
    by_cases e2 : a = i
    · rw [e2, setR_at]; exact h.int b (by omega) j hj
    · rw [setR_ne e2]; exact h.int b (by omega) a (by omega)
  · rw [← h.schur (by omega) hin hj]
    refine II.dt (fun a ha b hb => ?_)
    refine h.int _ ?_ _ ?_
    · split <;> omega
    · split <;> omega
theorem BR.swap (h : BR n k P H l) {a : Nat} (ha : k ≤ a) (han : a < n) : BR n k (swapR P a k) (swapR H a k) l := by
  have hlow : ∀ (G : Gr) t, t < k → swapR G a k t = G t := fun G t ht => swap_other (by omega) (by omega)
  have hhi : ∀ i, k ≤ i → i < n → ∃ i', k ≤ i' ∧ i' < n ∧ swapR P a k i = P i' ∧ swapR H a k i = H i' := by
    intro i hi hn
    unfold swapR
    split
    · exact ⟨k, Nat.le_refl _, by omega, rfl, rfl⟩
    · split
      · exact ⟨a, ha, han, rfl, rfl⟩
      · exact ⟨i, hi, hn, rfl, rfl⟩
  refine ⟨h.kn, ?_, ?_, ?_, ?_⟩
  · intro i hi j hj
    rw [hlow P i hi, h.r1 i hi j hj]
    exact sm_congr (fun t ht => by rw [hlow H t ht])
  · intro i hi hn j hj
    obtain ⟨i', h1, h2, h3, h4⟩ := hhi i hi hn
    rw [h3, h4, h.r2 i' h1 h2 j hj]
    congr 1
    exact sm_congr (fun t ht => by rw [hlow H t ht])
  · rw [h.r3]
    exact dt_congr (fun x hx y hy => by rw [hlow P y hy])
  · intro i hi j hj
    by_cases e : i < k
    · rw [hlow P i e]; exact h.int i hi j hj
    · obtain ⟨i', h1, h2, h3, h4⟩ := hhi i (by omega) hi
      rw [h3]; exact h.int i' h2 j hj
theorem sm_sub (f g : Nat → Rat) (c : Rat) : ∀ n : Nat, sm (fun k => f k - g k * c) n = sm f n - sm g n * c
  | 0 => by show (0 : Rat) = 0 - 0 * c; grind
  | n + 1 => by simp only [sm]; rw [sm_sub f g c n]; grind
theorem BR.step (h : BR n k P H l) {H' : Gr} (hk : k < n) (h0 : H k k ≠ 0) (e1 : ∀ j, j < n + 1 → H' k j = H k j / H k k) (e2 : ∀ i, i < n → i ≠ k → ∀ j, j < n + 1 → H' i j = H i j - H i k * H' k j) : BR n (k + 1) P H' (l * H k k) := by
  have hm : ∀ j, j < n + 1 → H' k j * H k k = H k j := fun j hj => by rw [e1 j hj, Rat.div_mul_cancel h0]
  have hs : ∀ i, ∀ j, j < n + 1 → sm (fun t => P i t * H' t j) (k + 1) = (sm (fun t => P i t * H t j) k - sm (fun t => P i t * H t k) k * H' k j) + P i k * H' k j := by
    intro i j hj
    rw [sm, ← sm_sub]
    congr 1
    exact sm_congr (fun t ht => by rw [e2 t (by omega) (by omega) j hj]; grind)
  refine ⟨hk, ?_, ?_, ?_, h.int⟩
  · intro i hi j hj
    rw [hs i j hj]
    by_cases e : i = k
    · subst e
      have a1 := h.r2 i (Nat.le_refl _) hk j hj
      have a2 := h.r2 i (Nat.le_refl _) hk i (by omega)
      have a3 := hm j hj
      grind
    · have a1 := h.r1 i (by omega) j hj
      have a2 := h.r1 i (by omega) k (by omega)
      grind
  · intro i hi hn j hj
    rw [hs i j hj, e2 i hn (by omega) j hj]
    have a1 := h.r2 i (by omega) hn j hj
    have a2 := h.r2 i (by omega) hn k (by omega)
    grind
  · rw [← h.schur (Nat.le_refl _) hk (by omega : k < n + 1)]
    refine dt_congr (fun a ha b hb => ?_)
    rw [show (if b < k then b else k) = b by split <;> omega, show (if a < k then a else k) = a by split <;> omega]
end

/-! integers with a sign -/
def vz (s : Sg) : Rat := ((sg s.1 s.2 : Int) : Rat)
theorem sg_eq_zero {b : Bool} {n : Nat} : sg b n = 0 ↔ n = 0 := by
  have := natAbs_sg b n
  constructor
  · intro h; rw [h] at this; simpa using this.symm
  · intro h; rw [h]; exact sg_zero b
theorem vz_zero {s : Sg} : vz s = 0 ↔ s.2 = 0 := by
  unfold vz
  rw [← sg_eq_zero (b := s.1)]
  constructor
  · intro h
    exact Rat.intCast_inj.1 h
  · intro h; rw [h]; rfl
theorem vz_zt (a b : Sg) : vz (zt a b) = vz a * vz b := by
  unfold vz zt
  rw [← sg_mul, Rat.intCast_mul]
theorem vz_zm (a b : Sg) : vz (zm a b) = vz a - vz b := by
  have : sg (zm a b).1 (zm a b).2 = sg a.1 a.2 - sg b.1 b.2 := by
    obtain ⟨a1, a2⟩ := a
    obtain ⟨b1, b2⟩ := b
    unfold zm
    cases a1 <;> cases b1 <;> simp [sg] <;> (try split) <;> (try simp) <;> omega
  unfold vz
  rw [this, Rat.intCast_sub]
theorem vz_zo {a b : Sg} (hb : b.2 ≠ 0) {x : Rat} (hx : II x) (h : vz a = x * vz b) : vz (zo a b) = x := by
  obtain ⟨z, rfl⟩ := hx
  have hi : sg a.1 a.2 = z * sg b.1 b.2 := by
    refine Rat.intCast_inj.1 ?_
    rw [Rat.intCast_mul]; exact h
  have hd : b.2 ∣ a.2 := by
    have := congrArg Int.natAbs hi
    rw [natAbs_sg, Int.natAbs_mul, natAbs_sg] at this
    exact ⟨z.natAbs, by rw [this, Nat.mul_comm]⟩
  have h1 : sg (a.1 != b.1) (a.2 / b.2) * sg b.1 b.2 = sg a.1 a.2 := by
    rw [sg_mul, Nat.div_mul_cancel hd]
    congr 1
    cases a.1 <;> cases b.1 <;> rfl
  unfold vz zo
  rw [Rat.intCast_inj]
  have h2 : sg b.1 b.2 ≠ 0 := fun e => hb (sg_eq_zero.1 e)
  exact Int.eq_of_mul_eq_mul_right h2 (h1.trans hi)

/-! both eliminations side by side -/
structure LK (n k : Nat) (S : St) (G : Gz) (l : Sg) (T : Nat → Rat) (P : Gr) : Prop where
  piv : S.piv = List.range k
  eq : ∀ i, i < n → ∀ j, j < n + 1 → vz (G i j) = vz l * (T i * S.G i j)
  t0 : ∀ i, T i ≠ 0
  t1 : ∀ i, i < k → T i = 1
  l0 : l.2 ≠ 0
  br : BR n k P (fun i j => T i * S.G i j) (vz l)
theorem pvz_pvf {G : Gz} {A : Gr} {c : Nat} : ∀ {f i : Nat}, (∀ x, i ≤ x → x < i + f → ((G x c).2 = 0 ↔ A x c = 0)) → pvz G c f i = pvf A c f i
  | 0, _, _ => rfl
  | f + 1, i, h => by
    rw [pvz, pvf, pvz_pvf (fun x h1 h2 => h x (by omega) (by omega))]
    have := h i (Nat.le_refl _) (by omega)
    by_cases e : (G i c).2 = 0
    · rw [if_pos e, if_pos (this.1 e)]
    · rw [if_neg e, if_neg (fun e2 => e (this.2 e2))]
theorem LK.zero {n k : Nat} {S : St} {G : Gz} {l : Sg} {T : Nat → Rat} {P : Gr} (h : LK n k S G l T P) {i j : Nat} (hi : i < n) (hj : j < n + 1) : (G i j).2 = 0 ↔ S.G i j = 0 := by
  rw [← vz_zero, h.eq i hi j hj]
  have h1 := h.t0 i
  have h2 : vz l ≠ 0 := fun e => h.l0 (vz_zero.1 e)
  constructor
  · intro e
    rcases Rat.mul_eq_zero.1 e with e | e
    · exact absurd e h2
    · rcases Rat.mul_eq_zero.1 e with e | e
      · exact absurd e h1
      · exact e
  · intro e; rw [e, Rat.mul_zero, Rat.mul_zero]
theorem LK.step {n k a : Nat} {S : St} {G : Gz} {l : Sg} {T : Nat → Rat} {P : Gr} (h : LK n k S G l T P) (hk : k < n) (ha : k ≤ a) (han : a < n) (h0 : S.G a k ≠ 0) :
    LK n (k + 1) (stepAt k a S) (elimZ (swapZ G k a) k l) (G a k) (fun i => if i = k then 1 else if i = a then T k else T i) (swapR P a k) := by
  have hpl : S.piv.length = k := by rw [h.piv, List.length_range]
  obtain ⟨A, piv, pr⟩ := S
  simp only at hpl h0
  have hpv := h.piv
  simp only at hpv
  have hbr := h.br.swap ha han
  obtain ⟨H, hH⟩ : ∃ H : Gr, H = fun i j => T i * A i j := ⟨_, rfl⟩
  simp only at hbr
  rw [← hH] at hbr
  have hHa : ∀ i j, H i j = T i * A i j := fun i j => by rw [hH]
  have hk1 : ∀ j, swapR H a k k j = T a * A a j := fun j => by rw [swap_at, hHa]
  have hta := h.t0 a
  have hhk : swapR H a k k k ≠ 0 := by
    rw [hk1]
    intro e
    rcases Rat.mul_eq_zero.1 e with e | e
    · exact hta e
    · exact h0 e
  -- the new rows
  obtain ⟨S', hS'⟩ : ∃ S', (stepAt k a ⟨A, piv, pr⟩).G = S' := ⟨_, rfl⟩
  have hS : S' = clearR (scaleR (swapR A a k) k k) k k := by rw [← hS']; show clearR (scaleR (swapR A a piv.length) piv.length k) piv.length k = _; rw [hpl]
  have s1 : ∀ j, S' k j = A a j / A a k := fun j => by
    rw [hS]; show (if k = k then scaleR (swapR A a k) k k k j else _) = _
    rw [if_pos rfl]; show (if k = k then swapR A a k k j / swapR A a k k k else _) = _
    rw [if_pos rfl, swap_at]
  have s2 : ∀ i, i ≠ k → ∀ j, S' i j = swapR A a k i j - swapR A a k i k * S' k j := fun i hi j => by
    rw [hS]; show (if i = k then _ else scaleR (swapR A a k) k k i j - scaleR (swapR A a k) k k i k * scaleR (swapR A a k) k k k j) = _
    rw [if_neg hi]
    have e : ∀ x, scaleR (swapR A a k) k k i x = swapR A a k i x := fun x => by show (if i = k then _ else _) = _; rw [if_neg hi]
    rw [e, e]
    congr 2
    show _ = (if k = k then _ else _)
    rw [if_pos rfl]
  -- T after the exchange
  have tk : ∀ i, i ≠ k → ∀ j, swapR H a k i j = (if i = a then T k else T i) * swapR A a k i j := by
    intro i hi j
    by_cases e : i = a
    · rw [if_pos e]; unfold swapR; rw [if_pos e, if_pos e, hHa]
    · rw [if_neg e, swap_other e hi, swap_other e hi, hHa]
  obtain ⟨T', hT'⟩ : ∃ T' : Nat → Rat, T' = fun i => if i = k then 1 else if i = a then T k else T i := ⟨_, rfl⟩
  have q1 : T' k = 1 := by rw [hT']; simp
  have q2 : ∀ i, i ≠ k → T' i = if i = a then T k else T i := fun i hi => by rw [hT']; simp [hi]
  have e1 : ∀ j, j < n + 1 → T' k * S' k j = swapR H a k k j / swapR H a k k k := by
    intro j _
    rw [q1, s1, hk1, hk1, Rat.one_mul]
    grind
  have e2 : ∀ i, i < n → i ≠ k → ∀ j, j < n + 1 → T' i * S' i j = swapR H a k i j - swapR H a k i k * (T' k * S' k j) := by
    intro i _ hik j _
    rw [tk i hik, tk i hik, q1, s2 i hik, q2 i hik]
    grind
  have hbr2 := hbr.step (H' := fun i j => T' i * S' i j) hk hhk e1 e2
  have hl2 : vz l ≠ 0 := fun e => h.l0 (vz_zero.1 e)
  have hl' : vz (G a k) = vz l * swapR H a k k k := by rw [h.eq a han k (by omega), hk1]
  rw [← hl'] at hbr2
  rw [← hT']
  have hG1 : ∀ i, i < n → ∀ j, j < n + 1 → vz (swapZ G k a i j) = vz l * swapR H a k i j := by
    intro i hi j hj
    unfold swapZ swapR
    by_cases c1 : i = k
    · rw [if_pos c1]
      by_cases c2 : i = a
      · rw [if_pos c2, h.eq a han j hj, hHa, show k = a by omega]
      · rw [if_neg c2, if_pos c1, h.eq a han j hj, hHa]
    · rw [if_neg c1]
      by_cases c2 : i = a
      · rw [if_pos c2, if_pos c2, h.eq k hk j hj, hHa]
      · rw [if_neg c2, if_neg c2, if_neg c1, h.eq i hi j hj, hHa]
  have hkk : swapZ G k a k = G a := by unfold swapZ; rw [if_pos rfl]
  refine ⟨?_, ?_, ?_, ?_, ?_, ?_⟩
  · show piv ++ [k] = _
    rw [hpv, List.range_succ]
  · intro i hi j hj
    rw [hS']
    unfold elimZ
    by_cases c1 : i = k
    · rw [if_pos c1, hG1 i hi j hj, hl', c1, e1 j hj]
      have := hhk
      grind
    · rw [if_neg c1]
      by_cases c2 : j = k
      · rw [if_pos c2, c2, e2 i hi c1 k (by omega), e1 k (by omega)]
        have : vz (false, 0) = 0 := vz_zero.2 rfl
        rw [this]
        have := hhk
        grind
      · rw [if_neg c2]
        refine vz_zo h.l0 (hbr2.entry hi hj) ?_
        show vz (zm _ _) = _
        rw [vz_zm, vz_zt, vz_zt, hG1 i hi j hj, hG1 i hi k (by omega), hG1 k hk j hj, hG1 k hk k (by omega), hl', e2 i hi c1 j hj, e1 j hj]
        have := hhk
        grind
  · intro i
    by_cases c1 : i = k
    · rw [c1, q1]; decide
    · rw [q2 i c1]; split
      · exact h.t0 k
      · exact h.t0 i
  · intro i hi
    by_cases c1 : i = k
    · rw [c1, q1]
    · rw [q2 i c1, if_neg (by omega)]; exact h.t1 i (by omega)
  · exact fun e => h0 ((h.zero han (by omega)).1 e)
  · rw [hS']; exact hbr2
theorem ech_mem {n : Nat} : ∀ (f c : Nat) (S : St) (x : Nat), x ∈ (ech n f c S).piv → x ∈ S.piv ∨ c ≤ x
  | 0, c, S, x, h => .inl h
  | f + 1, c, S, x, h => by
    rw [ech] at h
    split at h
    · rcases ech_mem f (c + 1) _ x h with h | h
      · unfold estep at h
        split at h
        · exact .inl h
        · simp only [stepAt, List.mem_append, List.mem_singleton] at h
          rcases h with h | h
          · exact .inl h
          · exact .inr (by omega)
      · exact .inr (by omega)
    · exact .inl h
theorem bar_ech {n e : Nat} : ∀ (f k : Nat) (S : St) (G : Gz) (l : Sg) (T : Nat → Rat) (P : Gr), k + f = n → LK n k S G l T P →
    (bar n f k l G = none → ∃ x, x < n ∧ x ∉ (ech n (f + e) k S).piv) ∧ (∀ G', bar n f k l G = some G' → (ech n (f + e) k S).piv = List.range n ∧ ∃ y, y ≠ 0 ∧ ∀ i, i < n → ∀ j, j < n + 1 → vz (G' i j) = y * (ech n (f + e) k S).G i j)
  | 0, k, S, G, l, T, P, hk, h => by
    obtain rfl : k = n := by omega
    have hpl : S.piv.length = k := by rw [h.piv, List.length_range]
    rw [ech_full (by omega)]
    refine ⟨(fun h => absurd h (by simp [bar])), fun G' hG => ?_⟩
    obtain rfl : G = G' := by simpa [bar] using hG
    exact ⟨h.piv, vz l, fun e => h.l0 (vz_zero.1 e), fun i hi j hj => by rw [h.eq i hi j hj, h.t1 i hi, Rat.one_mul]⟩
  | f + 1, k, S, G, l, T, P, hk, h => by
    have hpl : S.piv.length = k := by rw [h.piv, List.length_range]
    have hp : pvz G k (n - k) k = pvf S.G k (n - S.piv.length) S.piv.length := by
      rw [hpl]
      exact pvz_pvf (fun x h1 h2 => h.zero (by omega) (by omega))
    rw [show f + 1 + e = (f + e) + 1 by omega, ech, if_pos (by omega)]
    unfold estep
    rw [bar, hp]
    cases hq : pvf S.G k (n - S.piv.length) S.piv.length with
    | none =>
      refine ⟨fun _ => ⟨k, by omega, fun hm => ?_⟩, (fun G' h => absurd h (by simp))⟩
      rcases ech_mem _ _ _ _ hm with hm | hm
      · rw [h.piv, List.mem_range] at hm; omega
      · omega
    | some a =>
      have ha := pvf_some hq
      rw [hpl] at ha
      exact bar_ech f (k + 1) _ _ _ _ _ (by omega) (h.step (by omega) ha.1 (by omega) ha.2.2)
theorem LK.start {n : Nat} {A : Gr} {Z : Gz} {c : Nat → Rat} (hc : ∀ i, c i ≠ 0) (h : ∀ i, i < n → ∀ j, j < n + 1 → vz (Z i j) = c i * A i j) : LK n 0 ⟨A, [], 1⟩ Z (false, 1) c (fun i j => vz (Z i j)) :=
  have h1 : vz (false, 1) = 1 := rfl
  ⟨rfl, fun i hi j hj => by rw [h1, Rat.one_mul]; exact h i hi j hj, hc, fun i hi => by omega, by decide,
    ⟨Nat.zero_le _, fun i hi => by omega, fun i _ hi j hj => by rw [h i hi j hj]; exact (Rat.zero_add _).symm, h1, fun i _ j _ => ⟨_, rfl⟩⟩⟩
theorem ech_pr {n : Nat} : ∀ (f c : Nat) (S : St), S.pr ≠ 0 → (ech n f c S).pr ≠ 0
  | 0, _, _, h => h
  | f + 1, c, S, h => by
    rw [ech]
    split
    · refine ech_pr f (c + 1) _ ?_
      unfold estep
      split
      · exact h
      · rename_i a hp
        have := (pvf_some hp).2.2
        show (if _ then S.pr else -S.pr) * _ ≠ 0
        intro e
        rcases Rat.mul_eq_zero.1 e with e | e
        · split at e
          · exact h e
          · exact h (by grind)
        · exact this e
    · exact h
end Go.Proofs.YtiamgjepcagohaaGreatDoor.P
end
section
/- Solve and the determinant of the reference: plain laws. -/
namespace Go.Proofs.YtiamgjepcagohaaGreatDoor.P
open Go Go.Proofs.YtiamgjepcagohaaGreatDoor.Ari
/-! the common denominator -/
theorem comm_dvd (q : Nat → Rat) : ∀ m k, k < m → (q k).den ∣ comm q m
  | 0, _, h => by omega
  | m + 1, k, h => by
    rw [comm]
    by_cases e : k = m
    · subst e
      have hg : Nat.gcd (comm q k) (q k).den ∣ comm q k := Nat.gcd_dvd_left _ _
      have hd : Nat.gcd (comm q k) (q k).den ∣ (q k).den := Nat.gcd_dvd_right _ _
      obtain ⟨x, hx⟩ := hg
      have hd2 := Nat.mul_div_cancel' hd
      generalize Nat.gcd (comm q k) (q k).den = g at *
      refine ⟨x, ?_⟩
      rw [hx]
      calc g * x * ((q k).den / g) = g * ((q k).den / g) * x := by rw [Nat.mul_assoc, Nat.mul_comm x, ← Nat.mul_assoc]
        _ = (q k).den * x := by rw [hd2]
    · exact Nat.dvd_trans (comm_dvd q m k (by omega)) (Nat.dvd_mul_right _ _)
theorem vz_intz (q : Nat → Rat) {m k : Nat} (h : k < m) : vz (intz q m k) = ((comm q m : Nat) : Rat) * q k := by
  obtain ⟨x, hx⟩ := comm_dvd q m k h
  have hd : 0 < (q k).den := (q k).den_pos
  have e1 : comm q m / (q k).den = x := by rw [hx, Nat.mul_div_cancel_left _ hd]
  unfold vz intz
  simp only
  rw [e1, hx, ← sg_mulNat]
  unfold ngv
  rw [sg_num, Rat.intCast_mul]
  have h2 : ((q k).num : Rat) = q k * ((q k).den : Rat) := by
    have h3 := Rat.mkRat_mul_mkRat (q k).num ((q k).den : Int) (q k).den 1
    rw [Rat.mkRat_self, Nat.mul_one] at h3
    rw [show ((q k).den : Rat) = mkRat ((q k).den : Int) 1 from (Rat.mkRat_one _).symm, h3, ← Rat.mkRat_one, Rat.mkRat_eq_iff (by decide) (q k).den_nz]
    grind
  rw [h2, Rat.natCast_mul]
  show q k * ((q k).den : Rat) * ((x : Int) : Rat) = _
  rw [show ((x : Int) : Rat) = ((x : Nat) : Rat) from rfl]
  grind
theorem qq_vz {x y : Sg} (hy : y.2 ≠ 0) : qq (x.1 != y.1) x.2 y.2 = vz x / vz y := by
  have h1 : vz y ≠ 0 := fun e => hy (vz_zero.1 e)
  have h2 : qq (x.1 != y.1) x.2 y.2 * vz y = vz x := by
    unfold qq vz
    have e : sg (x.1 != y.1) x.2 * sg y.1 y.2 = sg x.1 x.2 * (y.2 : Int) := by
      rw [sg_mul, sg_mulNat]
      congr 1
      cases x.1 <;> cases y.1 <;> rfl
    rw [← Rat.mkRat_one (sg y.1 y.2), Rat.mkRat_mul_mkRat, Nat.mul_one, e, ← Rat.mkRat_one (sg x.1 x.2), Rat.mkRat_eq_iff hy (by decide)]
    simp
  rw [← h2, Rat.div_def, Rat.mul_assoc, Rat.mul_inv_cancel _ h1, Rat.mul_one]

/-! Solve -/
section
variable {n e : Nat} {A : Gr} {Z : Gz} {c : Nat → Rat}
/-- What the elimination without fractions tells of the one with them. -/
theorem bar_none (he : e ≤ 1) (hc : ∀ i, c i ≠ 0) (h : ∀ i, i < n → ∀ j, j < n + 1 → vz (Z i j) = c i * A i j) (hb : bar n n 0 (false, 1) Z = none) :
    ¬ ((ech n (n + e) 0 ⟨A, [], 1⟩).piv.length = n ∧ ∀ x, x ∈ (ech n (n + e) 0 ⟨A, [], 1⟩).piv → x < n) := by
  obtain ⟨x, hx, hn⟩ := (bar_ech (e := e) n 0 _ _ _ _ _ (by omega) (LK.start hc h)).1 hb
  obtain ⟨hr, _⟩ := ech_form_c n (n + e) (n + e) A (Nat.le_refl _)
  rintro ⟨hl, hlt⟩
  apply hn
  have hge := inc_ge hr.inc
  have hf : Rf n n n (ech n (n + e) 0 ⟨A, [], 1⟩).G (ech n (n + e) 0 ⟨A, [], 1⟩).piv :=
    ⟨hr.ple, fun t ht => hlt _ (by simp [List.getD_eq_getElem?_getD, ht]), Nat.le_refl _, hr.inc, hr.one, hr.zero, hr.lead, fun i h1 h2 => by omega⟩
  have := hf.full hl x hx
  rw [← this]
  simp [List.getD_eq_getElem?_getD, hl, hx]
theorem bar_some {G' : Gz} (he : e ≤ 1) (hc : ∀ i, c i ≠ 0) (h : ∀ i, i < n → ∀ j, j < n + 1 → vz (Z i j) = c i * A i j) (hb : bar n n 0 (false, 1) Z = some G') :
    (ech n (n + e) 0 ⟨A, [], 1⟩).piv = List.range n ∧ ∀ i, i < n → (G' i i).2 ≠ 0 ∧ qq ((G' i n).1 != (G' i i).1) (G' i n).2 (G' i i).2 = (ech n (n + e) 0 ⟨A, [], 1⟩).G i n := by
  obtain ⟨hp, y, hy, hv⟩ := (bar_ech (e := e) n 0 _ _ _ _ _ (by omega) (LK.start hc h)).2 G' hb
  obtain ⟨hr, _⟩ := ech_form_c n (n + 1) (n + e) A (by omega)
  refine ⟨hp, fun i hi => ?_⟩
  have h1 : (ech n (n + e) 0 ⟨A, [], 1⟩).G i i = 1 := by
    have := hr.one i (by rw [hp, List.length_range]; exact hi)
    rw [hp] at this
    simpa [List.getD_eq_getElem?_getD, hi] using this
  have h2 := hv i hi i (by omega)
  rw [h1, Rat.mul_one] at h2
  have h3 : (G' i i).2 ≠ 0 := fun e => hy (by rw [← h2]; exact vz_zero.2 e)
  refine ⟨h3, ?_⟩
  rw [qq_vz h3, h2, hv i hi n (by omega)]
  grind
end
theorem range_getD {n t : Nat} (h : t < n) : (List.range n).getD t 0 = t := by simp [List.getD_eq_getElem?_getD, h]
/-- What is found solves the system. -/
theorem ech_solves {n : Nat} {A : Gr} (hp : (ech n n 0 ⟨A, [], 1⟩).piv = List.range n) : ∀ i, i < n → sm (fun t => A i t * (ech n n 0 ⟨A, [], 1⟩).G t n) n = A i n := by
  intro i hi
  obtain ⟨hr, hs⟩ := ech_form_c n (n + 1) n A (by omega)
  generalize ech n n 0 ⟨A, [], 1⟩ = S at *
  have hu : ∀ t, t < n → ∀ j, j < n → S.G t j = if t = j then 1 else 0 := by
    intro t ht j hj
    have hl : S.piv.length = n := by rw [hp, List.length_range]
    by_cases e : t = j
    · rw [if_pos e, ← e]
      have := hr.one t (by omega)
      rwa [hp, range_getD ht] at this
    · rw [if_neg e]
      have := hr.zero j (by omega) t ht e
      rwa [hp, range_getD hj] at this
  obtain ⟨q, hq⟩ := hs.bwd i hi
  have h1 : ∀ j, j < n → A i j = q j := by
    intro j hj
    rw [hq j (by omega), sm_one hj (fun t ht htj => by rw [hu t ht j hj, if_neg htj, Rat.mul_zero]), hu j hj j hj, if_pos rfl, Rat.mul_one]
  rw [hq n (by omega)]
  exact sm_congr (fun t ht => by rw [h1 t ht])
theorem full_det {n : Nat} {A : Gr} : (dt n A ≠ 0 ↔ (ech n n 0 ⟨A, [], 1⟩).piv.length = n) := by
  have h := det_ech n A
  obtain ⟨hr, _⟩ := ech_form n n A
  have hpl := hr.ple
  have hpr := ech_pr (n := n) n 0 ⟨A, [], 1⟩ (show (1 : Rat) ≠ 0 by decide)
  by_cases e : (ech n n 0 ⟨A, [], 1⟩).piv.length < n
  · rw [if_pos e] at h
    constructor
    · intro h2; exact absurd h.symm h2
    · omega
  · rw [if_neg e] at h
    rw [← h]
    exact ⟨fun _ => by omega, fun _ => hpr⟩

/-! the determinant, as the reference finds it -/
def elimD (G : Gr) (c : Nat) : Gr := fun i k => if c < i ∧ c ≤ k then G i k - G i c / G c c * G c k else G i k
def rdet (n : Nat) : Nat → Nat → Gr → Rat → Rat
  | 0, _, _, d => d
  | f + 1, c, G, d =>
    match pvf G c (n - c) c with
    | none => 0
    | some p => rdet n f (c + 1) (elimD (swapR G p c) c) ((if p = c then d else -d) * swapR G p c c c)
def blk (G : Gr) (c : Nat) : Gr := fun i k => G (i + c) (k + c)
def clearF (f : Nat → Rat) (G : Gr) (r j : Nat) : Gr := fun i k => if i < j ∧ i ≠ r then G i k - f i * G r k else G i k
end Go.Proofs.YtiamgjepcagohaaGreatDoor.P
end
