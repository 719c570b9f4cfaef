/- ClBar: lemmas of this claim, of 5 texts. -/
import Derived.Test.YtiamgjepcagohaaDoorClInt
section
/- Rows of integers in memory, and slices of such rows. -/
namespace Go.Proofs.YtiamgjepcagohaaDoor.P
open Go Go.RowKit Go.Proofs.YtiamgjepcagohaaDoorW.PrintWords Go.Proofs.YtiamgjepcagohaaDoorW.PrintLast Go.Proofs.YtiamgjepcagohaaDoorW.PrintMore Go.Proofs.YtiamgjepcagohaaDoor.Ari

structure Ez (W : World) (b o : Nat) (e : Sg) : Prop where
  c0 : W.cell? ⟨b, o, none⟩ = some (.bool e.1)
  c1 : W.cell? ⟨b, o + 1, none⟩ = some (.string (enc e.2))
section
variable {w W : World} {b o n m : Nat} {e e' : Sg} {S : Nat → Prop}
theorem Ez.lt (h : Ez W b o e) : b < W.heap.size := World.block_lt_of_cell? W ⟨b, o, none⟩ h.c0
theorem Ez.chg (k : Ez w b o e) (h : Chg w W S) (hs : ¬ S b) : Ez W b o e :=
  ⟨(cell_chg h k.lt hs).trans k.c0, (cell_chg h k.lt hs).trans k.c1⟩
theorem Ez.below (k : Ez w b o e) (h : Below w.heap.size w W) : Ez W b o e := k.chg (Chg.of_below h (fun _ => False)) (fun h => h)
/-- A row of this call's own: it can be written. -/
structure RowZ (W : World) (b m : Nat) (q : Nat → Sg) : Prop where
  lt : b < W.heap.size
  el : ∀ k, k < m → Ez W b (k * 2) (q k)
  fr : ∀ o, W.frozen? ⟨b, o, none⟩ = false
theorem RowZ.chg {q : Nat → Sg} (k : RowZ w b m q) (h : Chg w W S) (hs : ¬ S b) : RowZ W b m q :=
  ⟨Nat.lt_of_lt_of_le k.lt h.size, fun i hi => (k.el i hi).chg h hs, fun o => (frozen_chg h k.lt hs).trans (k.fr o)⟩
theorem RowZ.below {q : Nat → Sg} (k : RowZ w b m q) (h : Below w.heap.size w W) : RowZ W b m q := k.chg (Chg.of_below h (fun _ => False)) (fun h => h)
theorem RowZ.congr {q q' : Nat → Sg} (k : RowZ w b m q) (h : ∀ i, i < m → q i = q' i) : RowZ w b m q' := ⟨k.lt, fun i hi => h i hi ▸ k.el i hi, k.fr⟩
theorem set2_other {b o b' o' : Nat} {u0 u1 : Value} (h : b ≠ b' ∨ o' + 1 < o ∨ o < o') :
    (((W.setCell ⟨b', o', none⟩ u0).setCell ⟨b', o' + 1, none⟩ u1)).cell? ⟨b, o, none⟩ = W.cell? ⟨b, o, none⟩ := by
  rw [World.cell?_setCell_other, World.cell?_setCell_other]
  all_goals intro h2; injection h2 with h3 h4; omega
theorem Ez.set (h : Ez W b o e) (x : Bool) (n : Nat) : Ez ((W.setCell ⟨b, o, none⟩ (.bool x)).setCell ⟨b, o + 1, none⟩ (.string (enc n))) b o (x, n) := by
  obtain ⟨h0, h1⟩ := h
  refine ⟨?_, ?_⟩
  · simp [go_sem, *]
  · simp [go_sem, *]
theorem Ez.other (h : Ez W b o e) {b' o' : Nat} {u0 u1 : Value} (hne : b ≠ b' ∨ o' + 1 < o ∨ o + 1 < o') : Ez ((W.setCell ⟨b', o', none⟩ u0).setCell ⟨b', o' + 1, none⟩ u1) b o e :=
  ⟨(set2_other (by omega)).trans h.c0, (set2_other (by omega)).trans h.c1⟩
theorem RowZ.set {q : Nat → Sg} (h : RowZ W b m q) {k : Nat} (hk : k < m) (r : Sg) : RowZ ((W.setCell ⟨b, k * 2, none⟩ (.bool r.1)).setCell ⟨b, k * 2 + 1, none⟩ (.string (enc r.2))) b m (fun i => if i = k then r else q i) := by
  refine ⟨by simpa using h.lt, fun i hi => ?_, fun o => ?_⟩
  · by_cases e : i = k
    · subst e
      rw [if_pos rfl]
      exact (h.el i hi).set _ _
    · rw [if_neg e]
      exact (h.el i hi).other (by omega)
  · rw [World.frozen?_setCell, World.frozen?_setCell]; exact h.fr o
theorem chg_set2 (h : Chg w W S) {b o : Nat} (hp : S b ∨ w.heap.size ≤ b) (u0 u1 : Value) : Chg w ((W.setCell ⟨b, o, none⟩ u0).setCell ⟨b, o + 1, none⟩ u1) S :=
  (h.setCell (p := ⟨b, o, none⟩) hp u0).setCell (p := ⟨b, o + 1, none⟩) hp u1
/-- A slice of n own rows of m numbers each. -/
structure GridZ (W : World) (B g n m : Nat) (A C : Nat → Nat) (G : Nat → Nat → Sg) : Prop where
  base : B ≤ g
  lt : g < W.heap.size
  top : ∀ i, i < n → W.cell? ⟨g, i, none⟩ = some (.slice (some ⟨A i, 0, none⟩) m (C i))
  ftop : ∀ o, W.frozen? ⟨g, o, none⟩ = false
  rows : ∀ i, i < n → RowZ W (A i) m (G i)
  ge : ∀ i, i < n → B ≤ A i
  ne : ∀ i, i < n → A i ≠ g
  inj : ∀ i j, i < n → j < n → A i = A j → i = j
variable {B g : Nat} {A C : Nat → Nat} {G : Nat → Nat → Sg}
theorem GridZ.chg (k : GridZ w B g n m A C G) (h : Chg w W S) (hs : ∀ b, B ≤ b → ¬ S b) : GridZ W B g n m A C G :=
  ⟨k.base, Nat.lt_of_lt_of_le k.lt h.size, fun i hi => (cell_chg h k.lt (hs _ k.base)).trans (k.top i hi), fun o => (frozen_chg h k.lt (hs _ k.base)).trans (k.ftop o), fun i hi => (k.rows i hi).chg h (hs _ (k.ge i hi)), k.ge, k.ne, k.inj⟩
theorem GridZ.chg2 (k : GridZ w B g n m A C G) (h : Chg w W S) (hg : ¬ S g) (hA : ∀ i, i < n → ¬ S (A i)) : GridZ W B g n m A C G :=
  ⟨k.base, Nat.lt_of_lt_of_le k.lt h.size, fun i hi => (cell_chg h k.lt hg).trans (k.top i hi), fun o => (frozen_chg h k.lt hg).trans (k.ftop o), fun i hi => (k.rows i hi).chg h (hA i hi), k.ge, k.ne, k.inj⟩
theorem GridZ.below (k : GridZ w B g n m A C G) (h : Below w.heap.size w W) : GridZ W B g n m A C G := k.chg (Chg.of_below h (fun _ => False)) (fun _ _ h => h)
theorem GridZ.congr {G' : Nat → Nat → Sg} (k : GridZ w B g n m A C G) (h : ∀ i, i < n → ∀ j, j < m → G i j = G' i j) : GridZ w B g n m A C G' :=
  ⟨k.base, k.lt, k.top, k.ftop, fun i hi => (k.rows i hi).congr (h i hi), k.ge, k.ne, k.inj⟩
/-- One row is written, by whatever leaves all else. -/
theorem GridZ.row (k : GridZ w B g n m A C G) {r : Nat} (hr : r < n) {q : Nat → Sg} (h : Chg w W (fun b => b = A r)) (hq : RowZ W (A r) m q) : GridZ W B g n m A C (fun i => if i = r then q else G i) := by
  refine ⟨k.base, Nat.lt_of_lt_of_le k.lt h.size, fun i hi => (cell_chg h k.lt (fun e => k.ne r hr e.symm)).trans (k.top i hi), fun o => (frozen_chg h k.lt (fun e => k.ne r hr e.symm)).trans (k.ftop o), fun i hi => ?_, k.ge, k.ne, k.inj⟩
  by_cases e : i = r
  · subst e
    simpa using hq
  · simp only [if_neg e]
    exact (k.rows i hi).chg h (fun h2 => e (k.inj i r hi hr h2))
end

def swapZ (G : Nat → Nat → Sg) (i j : Nat) : Nat → Nat → Sg := fun k => if k = i then G j else if k = j then G i else G k
theorem GridZ.swap {W : World} {B g n m i j : Nat} {A C : Nat → Nat} {G : Nat → Nat → Sg} (k : GridZ W B g n m A C G) (hi : i < n) (hj : j < n) :
    GridZ ((W.setCell ⟨g, i, none⟩ (.slice (some ⟨A j, 0, none⟩) m (C j))).setCell ⟨g, j, none⟩ (.slice (some ⟨A i, 0, none⟩) m (C i))) B g n m (sw A i j) (sw C i j) (swapZ G i j) := by
  have hc : Chg W ((W.setCell ⟨g, i, none⟩ (.slice (some ⟨A j, 0, none⟩) m (C j))).setCell ⟨g, j, none⟩ (.slice (some ⟨A i, 0, none⟩) m (C i))) (fun b => b = g) :=
    ((Chg.refl W (fun b => b = g)).setCell (p := ⟨g, i, none⟩) (.inl rfl) _).setCell (p := ⟨g, j, none⟩) (.inl rfl) _
  have hsw : ∀ x, x < n → ∃ y, y < n ∧ sw A i j x = A y ∧ swapZ G i j x = G y ∧ y = (if x = i then j else if x = j then i else x) := by
    intro x hx
    unfold sw swapZ
    split
    · exact ⟨j, hj, rfl, rfl, rfl⟩
    · split
      · exact ⟨i, hi, rfl, rfl, rfl⟩
      · exact ⟨x, hx, rfl, rfl, rfl⟩
  refine ⟨k.base, by simpa using k.lt, fun x hx => ?_, fun o => by rw [World.frozen?_setCell, World.frozen?_setCell]; exact k.ftop o, fun x hx => ?_, fun x hx => ?_, fun x hx => ?_, fun x y hx hy h => ?_⟩
  · have h1 := k.top i hi
    have h2 := k.top j hj
    unfold sw
    by_cases e : x = j
    · subst e
      rw [cell_setn]
      · by_cases e2 : x = i
        · subst e2; simp
        · simp [e2]
      · by_cases e2 : x = i
        · subst e2; rw [cell_setn (by rw [h1]; rfl)]; rfl
        · rw [World.cell?_setCell_other _ _ _ _ (fun h => e2 (by injection h with _ h; exact h.symm)), h2]; rfl
    · rw [World.cell?_setCell_other _ _ _ _ (fun h => e (by injection h with _ h; exact h.symm))]
      by_cases e2 : x = i
      · subst e2
        rw [cell_setn (by rw [h1]; rfl), if_pos rfl, if_pos rfl]
      · rw [World.cell?_setCell_other _ _ _ _ (fun h => e2 (by injection h with _ h; exact h.symm)), if_neg e2, if_neg e, if_neg e2, if_neg e]
        exact k.top x hx
  · obtain ⟨y, hy, h1, h2, _⟩ := hsw x hx
    rw [h1, h2]
    exact (k.rows y hy).chg hc (k.ne y hy)
  · obtain ⟨y, hy, h1, _, _⟩ := hsw x hx
    rw [h1]; exact k.ge y hy
  · obtain ⟨y, hy, h1, _, _⟩ := hsw x hx
    rw [h1]; exact k.ne y hy
  · obtain ⟨x', hx', h1, _, e1⟩ := hsw x hx
    obtain ⟨y', hy', h2, _, e2⟩ := hsw y hy
    rw [h1, h2] at h
    have := k.inj _ _ hx' hy' h
    rw [e1, e2] at this
    by_cases x1 : x = i <;> by_cases x2 : x = j <;> by_cases y1 : y = i <;> by_cases y2 : y = j <;> simp only [x1, x2, y1, y2, if_true, if_false, if_pos, if_neg] at this <;> (try split at this) <;> omega
/-- i rows are done, row i is v. -/
structure PZ (W : World) (B g n m i : Nat) (v : Value) (A C : Nat → Nat) (G : Nat → Nat → Sg) : Prop where
  base : B ≤ g
  lt : g < W.heap.size
  top : ∀ j, j < n → W.cell? ⟨g, j, none⟩ = some (if j < i then .slice (some ⟨A j, 0, none⟩) m (C j) else if j = i then v else .slice none 0 0)
  ftop : ∀ o, W.frozen? ⟨g, o, none⟩ = false
  rows : ∀ j, j < i → RowZ W (A j) m (G j)
  ge : ∀ j, j < i → B ≤ A j
  ne : ∀ j, j < i → A j ≠ g
  inj : ∀ j k, j < i → k < i → A j = A k → j = k
section
variable {w W : World} {B g n m i : Nat} {v : Value} {A C : Nat → Nat} {G : Nat → Nat → Sg} {S : Nat → Prop}
theorem PZ.chg (k : PZ w B g n m i v A C G) (h : Chg w W S) (hg : ¬ S g) (hA : ∀ j, j < i → ¬ S (A j)) : PZ W B g n m i v A C G :=
  ⟨k.base, Nat.lt_of_lt_of_le k.lt h.size, fun j hj => (cell_chg h k.lt hg).trans (k.top j hj), fun o => (frozen_chg h k.lt hg).trans (k.ftop o), fun j hj => (k.rows j hj).chg h (hA j hj), k.ge, k.ne, k.inj⟩
theorem PZ.below (k : PZ w B g n m i v A C G) (h : Below w.heap.size w W) : PZ W B g n m i v A C G := k.chg (Chg.of_below h (fun _ => False)) (fun h => h) (fun _ _ h => h)
theorem PZ.store (k : PZ w B g n m i v A C G) (hi : i < n) (v' : Value) : PZ (w.setCell ⟨g, i, none⟩ v') B g n m i v' A C G := by
  have hc : Chg w (w.setCell ⟨g, i, none⟩ v') (fun b => b = g) := (Chg.refl w (fun b => b = g)).setCell (p := ⟨g, i, none⟩) (.inl rfl) _
  refine ⟨k.base, by simpa using k.lt, fun j hj => ?_, fun o => by rw [World.frozen?_setCell]; exact k.ftop o, fun j hj => (k.rows j hj).chg hc (k.ne j hj), k.ge, k.ne, k.inj⟩
  by_cases e : j = i
  · subst e
    rw [cell_setn (by rw [k.top j hj]; rfl), if_neg (by omega), if_pos rfl]
  · rw [World.cell?_setCell_other _ _ _ _ (fun h => e (by injection h with _ h; exact h.symm)), k.top j hj]
    simp only [if_neg e]
theorem PZ.next {b c bi : Nat} (k : PZ w B g n m i (.slice (some ⟨b, 0, none⟩) m c) A C G) (hr : RowZ w b m (G i)) (hb : bi ≤ b) (hB : B ≤ bi) (hg : g < bi) (hA : ∀ j, j < i → A j < bi) :
    PZ w B g n m (i + 1) (.slice none 0 0) (fun j => if j = i then b else A j) (fun j => if j = i then c else C j) G := by
  refine ⟨k.base, k.lt, fun j hj => ?_, k.ftop, fun j hj => ?_, fun j hj => ?_, fun j hj => ?_, fun x y hx hy h => ?_⟩
  · rw [k.top j hj]
    by_cases e : j = i
    · subst e; simp
    · by_cases e2 : j < i
      · rw [if_pos e2, if_pos (by omega), if_neg e, if_neg e]
      · rw [if_neg e2, if_neg e, if_neg (by omega)]
        simp
  · by_cases e : j = i
    · subst e; simpa using hr
    · simp only [if_neg e]; exact k.rows j (by omega)
  · by_cases e : j = i
    · simp only [if_pos e]; omega
    · simp only [if_neg e]; exact k.ge j (by omega)
  · by_cases e : j = i
    · simp only [if_pos e]; omega
    · simp only [if_neg e]; exact k.ne j (by omega)
  · have hA' := hA
    by_cases e1 : x = i
    · by_cases e2 : y = i
      · omega
      · simp only [if_pos e1, if_neg e2] at h
        have := hA y (by omega)
        omega
    · by_cases e2 : y = i
      · simp only [if_pos e2, if_neg e1] at h
        have := hA x (by omega)
        omega
      · simp only [if_neg e1, if_neg e2] at h
        exact k.inj x y (by omega) (by omega) h
theorem PZ.grid (k : PZ w B g n m n v A C G) : GridZ w B g n m A C G :=
  ⟨k.base, k.lt, fun j hj => by rw [k.top j hj, if_pos hj], k.ftop, k.rows, k.ge, k.ne, k.inj⟩
end
theorem PZ.start (w : World) (n m : Nat) (A C : Nat → Nat) (G : Nat → Nat → Sg) (B : Nat) (hB : B ≤ w.heap.size) : PZ (w.alloc (.cells (madeCells #[.slice none 0 0] n) 63)) B w.heap.size n m 0 (.slice none 0 0) A C G := by
  have h := World.rowIs_made w (.slice none 0 0) n 63
  refine ⟨hB, h.lt, fun j hj => ?_, fun o => h.frozen o, fun j hj => by omega, fun j hj => by omega, fun j hj => by omega, fun j k hj => by omega⟩
  rw [h.cell hj]
  simp

theorem infoZ : (Tryd.prog.info? 68).map (fun i => (i.zero, i.size, i.bytes)) = some (some (.agg #[.bool false, .string ⟨#[]⟩]), 2, 24) := by kernel_rfl
theorem infoRowZ : (Tryd.prog.info? 63).map (fun i => (i.zero, i.size, i.bytes)) = some (some (.slice none 0 0), 1, 24) := by kernel_rfl
theorem mad2_get (z0 z1 : Value) {m i : Nat} (hi : i < m) : (madeCells #[z0, z1] (m * 2))[i * 2]? = some z0 ∧ (madeCells #[z0, z1] (m * 2))[i * 2 + 1]? = some z1 := by
  have h0 : i * 2 < m * 2 := by omega
  have h1 : i * 2 + 1 < m * 2 := by omega
  have m0 : i * 2 % 2 = 0 := by omega
  have m1 : (i * 2 + 1) % 2 = 1 := by omega
  refine ⟨?_, ?_⟩ <;> simp [madeCells, h0, h1, m0, m1]
theorem make_ints (m : Nat) (hm : m ≤ 1000) (w : World) : (Instr.makeSlice 63 (.int .i64 (m : Int)) (.int .i64 (m : Int))).run Tryd.prog w =
    .ok (.slice (some ⟨w.heap.size, 0, none⟩) m m) (w.alloc (.cells (madeCells #[.bool false, .string ⟨#[]⟩] (m * 2)) 68)) := by
  obtain ⟨i, hi, hzz⟩ := Option.map_eq_some_iff.1 infoZ
  simp only [Prod.mk.injEq] at hzz
  obtain ⟨hz, hs, hb⟩ := hzz
  have hr := run_make (P := Tryd.prog) w 63 68 i _ Tryd.underlying63 hi hz .i64 .i64 m m (by omega) (Int.le_refl _) (by rw [hb]; omega) (by omega)
  simp only [Int.toNat_natCast, hs] at hr
  exact hr
theorem made_rowZ (w : World) (m : Nat) : RowZ (w.alloc (.cells (madeCells #[.bool false, .string ⟨#[]⟩] (m * 2)) 68)) w.heap.size m (fun _ => (false, 0)) := by
  refine ⟨by simp, fun i hi => ?_, fun o => ?_⟩
  · obtain ⟨h0, h1⟩ := mad2_get (.bool false) (.string ⟨#[]⟩) hi
    refine ⟨?_, ?_⟩
    · rw [cell_of_row _ w.heap.size (i * 2) _ _ (0, 0) (heap_alloc_new w _)]; exact h0
    · rw [cell_of_row _ w.heap.size (i * 2 + 1) _ _ (0, 0) (heap_alloc_new w _)]; rw [enc_zero]; exact h1
  · exact frozen_of_row _ w.heap.size o _ _ (heap_alloc_new w _)
end Go.Proofs.YtiamgjepcagohaaDoor.P
end
section
/- Package linear: integers. -/
namespace Go.Proofs.YtiamgjepcagohaaDoor.P
open Go Go.RowKit Go.Proofs.YtiamgjepcagohaaDoorW.PrintWords Go.Proofs.YtiamgjepcagohaaDoorW.PrintLast Go.Proofs.YtiamgjepcagohaaDoorW.PrintMore Go.Proofs.YtiamgjepcagohaaDoor.Ari

set_option maxHeartbeats 2000000 in
set_option maxRecDepth 1000000 in
theorem denominator_c {w0 w : World} {q : Rat} (hB : Below w0.heap.size w0 w) :
    Calls Tryd.prog 60 #[.agg #[.bool (ngv q), .string (enc q.num.natAbs), .string (encD q.den)]] w fun e w' => e = .returned (.string (enc q.den)) ∧ Below w0.heap.size w0 w' := by
  have H0 := Aside0.mk hB; obtain ⟨W, hW, HX, hbW⟩ := box1 w (.bool (ngv q)) (.string (enc q.num.natAbs)) (.string (encD q.den)) 27; have HW : Aside0 (Below w0.heap.size w0 W) := ⟨below_step hB hbW⟩; have HE := Aside0.mk hW
  have he := empty_encD q.den_pos
  have HI : Aside0 (∀ U V : World, Below U.heap.size U V → Calls Tryd.prog 38 #[.int .u64 1] V fun e w' => e = .returned (.string (enc 1)) ∧ Below U.heap.size U w') := ⟨fun U V h => fromUint_s (u := 1) h (by decide)⟩
  by_cases h1 : q.den = 1
  · rw [decide_eq_true h1] at he
    rw [h1]
    obtain ⟨t, ht⟩ : ∃ t, encD q.den = t := ⟨_, rfl⟩
    obtain ⟨o, hoo⟩ : ∃ t, enc 1 = t := ⟨_, rfl⟩
    rw [h1] at he HX HE
    obtain ⟨t, ht⟩ : ∃ t, encD 1 = t := ⟨_, rfl⟩
    rw [ht] at he HX HE ⊢
    rw [hoo] at HI ⊢
    clear hB hW hbW h1 hoo ht
    go_enter Tryd.func60, Tryd.ntmps60
    go_upto_region 1 with (fail)
    rw [HE.out]
    have kx := (HX.out); have kx0 := kx.c0; have kx1 := kx.c1; have kx2 := kx.c2; have fx0 := kx.f0; have fx1 := kx.f1; have fx2 := kx.f2; clear kx
    go_wp2_with (go_at_call 38; (with_reducible refine (HI.out _ _ (Below.refl _ _)).mono ?_); rintro e w1 ⟨rfl, hV⟩; replace HW := Aside0.mk (below_step HW.out hV); clear hV)
    go_ret
    exact ⟨rfl, HW.out⟩
  · rw [decide_eq_false h1] at he
    have hd : encD q.den = enc q.den := by unfold encD; rw [if_neg h1]
    rw [hd] at he HX HE ⊢
    obtain ⟨t, ht⟩ : ∃ t, enc q.den = t := ⟨_, rfl⟩
    rw [ht] at he HX HE ⊢
    clear hB hW hbW h1 ht hd
    go_enter Tryd.func60, Tryd.ntmps60
    go_upto_region 1 with (fail)
    rw [HE.out]
    have kx := (HX.out); have kx0 := kx.c0; have kx1 := kx.c1; have kx2 := kx.c2; have fx0 := kx.f0; have fx1 := kx.f1; have fx2 := kx.f2; clear kx
    go_wp2
    go_ret
    exact ⟨rfl, HW.out⟩

/-- The common denominator, as the program reckons it. -/
def comm (q : Nat → Rat) : Nat → Nat
  | 0 => 1
  | k + 1 => comm q k * ((q k).den / Nat.gcd (comm q k) (q k).den)
def intz (q : Nat → Rat) (m : Nat) : Nat → Sg := fun k => (ngv (q k), (q k).num.natAbs * (comm q m / (q k).den))
theorem comm_pos (q : Nat → Rat) : ∀ k, 0 < comm q k
  | 0 => Nat.one_pos
  | k + 1 => by
    rw [comm]
    refine Nat.mul_pos (comm_pos q k) (Nat.div_pos (Nat.le_of_dvd (q k).den_pos (Nat.gcd_dvd_right _ _)) (Nat.gcd_pos_of_pos_right _ (q k).den_pos))
theorem comm_nb {q : Nat → Rat} {m N : Nat} (h : ∀ k, k < m → Fit N (q k)) : ∀ k, k ≤ m → nb (comm q k) ≤ 1 + k * N
  | 0, _ => by rw [comm, nb_one]; omega
  | k + 1, hk => by
    rw [comm]
    have h1 := nb_mul_le (comm_nb h k (by omega)) (Nat.le_trans (nb_mono (Nat.div_le_self (q k).den (Nat.gcd (comm q k) (q k).den))) (h k (by omega)).den)
    have h2 : (k + 1) * N = k * N + N := Nat.succ_mul _ _
    omega
set_option maxHeartbeats 2000000 in
set_option maxRecDepth 1000000 in
theorem integers_c {w0 w : World} {b m c N : Nat} {q : Nat → Rat} (hB : Below w0.heap.size w0 w) (hQ : RowV w b m q) (hm : m ≤ 1000) (hF : ∀ k, k < m → Fit N (q k)) (hN : 1 + m * N + N + N ≤ 1073741824) :
    Calls Tryd.prog 37 #[.slice (some ⟨b, 0, none⟩) m c] w fun e w' => ∃ g, e = .returned (.slice (some ⟨g, 0, none⟩) m m) ∧ Below w0.heap.size w0 w' ∧ w.heap.size ≤ g ∧ RowZ w' g m (intz q m) := by
  have H0 := Aside0.mk hB
  have HQ := Aside0.mk hQ
  have HF := Aside0.mk (And.intro hF hN)
  have HI : Aside0 (∀ U V : World, Below U.heap.size U V → Calls Tryd.prog 38 #[.int .u64 1] V fun e w' => e = .returned (.string (enc 1)) ∧ Below U.heap.size U w') := ⟨fun U V h => fromUint_s (u := 1) h (by decide)⟩
  have HSM : Aside0 (∀ k, k ≤ m → Sm (comm q k) ∧ 0 < comm q k) := ⟨fun k hk => ⟨⟨by
    have h1 := comm_nb hF k hk
    have h2 : k * N ≤ m * N := Nat.mul_le_mul_right _ hk
    omega⟩, comm_pos q k⟩⟩
  have HDM : Aside0 (∀ k, k < m → Sm (q k).den ∧ 0 < (q k).den) := ⟨fun k hk => ⟨⟨by have := (hF k hk).den; omega⟩, (q k).den_pos⟩⟩
  have HMK : Aside0 (∀ W : World, (Instr.makeSlice 63 (.int .i64 (m : Int)) (.int .i64 (m : Int))).run Tryd.prog W = .ok (.slice (some ⟨W.heap.size, 0, none⟩) m m) (W.alloc (.cells (madeCells #[.bool false, .string ⟨#[]⟩] (m * 2)) 68))) := ⟨fun W => make_ints m hm W⟩
  clear hB hQ hF hN
  go_enter Tryd.func37, Tryd.ntmps37
  go_upto_region 2 with (go_at_call 38; (with_reducible refine (HI.out _ _ (Below.refl _ _)).mono ?_); rintro e w1 ⟨rfl, hV⟩; have HV := Aside0.mk hV; clear hV)
  go_wp2
  go_loopw [3, 19] (fun v3 v19 wr => ∃ k : Nat, k ≤ m ∧ v19 = .int .i64 k ∧ v3 = .string (enc (comm q k)) ∧ Aside0 (Below w.heap.size w wr)) (fun _ v19 _ => m - (intOf v19).toNat)
  case atStart => exact ⟨0, by omega, rfl, rfl, HV⟩
  case round =>
    clear HV
    obtain ⟨k, hk, rfl, rfl, HV⟩ := hrel
    by_cases hkm : k < m
    · have E1 := Aside0.mk ((HQ.out.below HV.out).el k hkm)
      have e0 := E1.out.c0
      have e1 := E1.out.c1
      have e2 := E1.out.c2
      obtain ⟨cc, hcc⟩ : ∃ x, comm q k = x := ⟨_, rfl⟩
      have hs1 := HSM.out k hk
      have hs2 := HDM.out k hkm
      have hs3 := HSM.out (k + 1) hkm
      have hck : comm q (k + 1) = comm q k * ((q k).den / Nat.gcd (comm q k) (q k).den) := rfl
      rw [hcc] at hs1 hck
      obtain ⟨d, hd⟩ : ∃ x, (q k).den = x := ⟨_, rfl⟩
      rw [hd] at hs2 hck
      obtain ⟨g, hg⟩ : ∃ x, Nat.gcd cc d = x := ⟨_, rfl⟩
      rw [hg] at hck
      obtain ⟨r, hr⟩ : ∃ x, d / g = x := ⟨_, rfl⟩
      rw [hr] at hck
      have hgp : 0 < g := hg ▸ Nat.gcd_pos_of_pos_right _ hs2.2
      have hgs : Sm g := hs2.1.le (hg ▸ Nat.gcd_le_right _ hs2.2)
      have hrs : Sm r := hs2.1.le (hr ▸ Nat.div_le_self _ _)
      obtain ⟨c2, hc2⟩ : ∃ x, cc * r = x := ⟨_, rfl⟩
      obtain ⟨dr, hdr⟩ : ∃ x, d % g = x := ⟨_, rfl⟩
      rw [hc2] at hck
      have HCK := Aside0.mk hck
      have HDN : Aside0 (∀ U V : World, Below U.heap.size U V → Calls Tryd.prog 60 #[rv (q k)] V fun e w' => e = .returned (.string (enc d)) ∧ Below U.heap.size U w') := ⟨fun U V h => hd ▸ denominator_c h⟩
      have HG : Aside0 (∀ U V : World, Below U.heap.size U V → Calls Tryd.prog 50 #[.string (enc cc), .string (enc d)] V fun e w' => e = .returned (.string (enc g)) ∧ Below U.heap.size U w') := ⟨fun U V h => hg ▸ gcd_s h hs1.1 hs2.1⟩
      have HDV : Aside0 (∀ U V : World, Below U.heap.size U V → Calls Tryd.prog 51 #[.string (enc d), .string (enc g)] V fun e w' => e = .returned (.tuple #[.string (enc r), .string (enc dr), .bool true]) ∧ Below U.heap.size U w') := ⟨fun U V h => hdr ▸ hr ▸ div_s h hs2.1 hgs hgp⟩
      have HMU : Aside0 (∀ U V : World, Below U.heap.size U V → Calls Tryd.prog 27 #[.string (enc cc), .string (enc r)] V fun e w' => e = .returned (.string (enc c2)) ∧ Below U.heap.size U w') := ⟨fun U V h => hc2 ▸ mul_s h hs1.1 hrs⟩
      rw [hcc]
      clear hcc hs1 hs2 hs3 hck hd hg hr hgp hgs hrs hc2 hdr
      go_upto_region 5 with (fail)
      clear e0 e1 e2
      obtain ⟨w5, hw5, HX, hV⟩ := box1 wr (.bool (ngv (q k))) (.string (enc (q k).num.natAbs)) (.string (encD (q k).den)) 27
      rw [hw5]
      replace HV := Aside0.mk (below_step HV.out hV)
      clear hw5 hV E1
      have kx := (HX.out); have kx0 := kx.c0; have kx1 := kx.c1; have kx2 := kx.c2; have fx0 := kx.f0; have fx1 := kx.f1; have fx2 := kx.f2; clear kx
      go_wp2_with (first
        | (go_at_call 60; (with_reducible refine (HDN.out _ _ (Below.refl _ _)).mono ?_); rintro e w1 ⟨rfl, hV⟩; replace HV := Aside0.mk (below_step HV.out hV); clear hV)
        | (go_at_call 50; (with_reducible refine (HG.out _ _ (Below.refl _ _)).mono ?_); rintro e w1 ⟨rfl, hV⟩; replace HV := Aside0.mk (below_step HV.out hV); clear hV)
        | (go_at_call 51; (with_reducible refine (HDV.out _ _ (Below.refl _ _)).mono ?_); rintro e w1 ⟨rfl, hV⟩; replace HV := Aside0.mk (below_step HV.out hV); clear hV)
        | (go_at_call 27; (with_reducible refine (HMU.out _ _ (Below.refl _ _)).mono ?_); rintro e w1 ⟨rfl, hV⟩; replace HV := Aside0.mk (below_step HV.out hV); clear hV))
      refine ⟨⟨k + 1, hkm, by go_num, by rw [HCK.out], HV⟩, ?_⟩
      simp [intOf]; omega
    · obtain rfl : m = k := by omega
      have hmk := HMK.out
      go_upto_region 10 with (fail)
      clear hmk
      have HRZ := made_rowZ wr m
      have hV := below_alloc (Below.refl wr.heap.size wr) (.cells (madeCells #[.bool false, .string ⟨#[]⟩] (m * 2)) 68)
      obtain ⟨g, hg⟩ : ∃ x, wr.heap.size = x := ⟨_, rfl⟩
      obtain ⟨w3, hw3⟩ : ∃ w3, wr.alloc (.cells (madeCells #[.bool false, .string ⟨#[]⟩] (m * 2)) 68) = w3 := ⟨_, rfl⟩
      rw [hw3] at HRZ hV ⊢
      have HGB : Aside0 (w.heap.size ≤ g) := ⟨hg ▸ HV.out.size⟩
      replace HV := Aside0.mk (below_step HV.out hV)
      rw [hg] at HRZ ⊢
      replace HRZ := Aside0.mk HRZ
      have hs0 := HSM.out m (Nat.le_refl _)
      obtain ⟨cc, hcc⟩ : ∃ x, comm q m = x := ⟨_, rfl⟩
      rw [hcc] at hs0 ⊢
      have HCC := Aside0.mk hcc
      have HS0 := Aside0.mk hs0
      have HCN : Aside0 (nb cc ≤ 1 + m * N) := ⟨hcc ▸ comm_nb HF.out.1 m (Nat.le_refl _)⟩
      clear hg hw3 hV hcc hs0
      go_wp2
      go_loopw [43] (fun v43 wr => ∃ k : Nat, k ≤ m ∧ v43 = .int .i64 k ∧ Aside0 (RowZ wr g m (fun j => if j < k then intz q m j else (false, 0))) ∧ Aside0 (Below w.heap.size w wr)) (fun v43 _ => m - (intOf v43).toNat)
      case atStart => exact ⟨0, by omega, rfl, ⟨HRZ.out.congr (fun j hj => by rw [if_neg (by omega)])⟩, HV⟩
      case round =>
        clear HRZ HV
        obtain ⟨k, hk, rfl, HRZ, HV⟩ := hrel
        by_cases hkm : k < m
        · have E1 := Aside0.mk ((HQ.out.below HV.out).el k hkm)
          have e0 := E1.out.c0
          have e1 := E1.out.c1
          have e2 := E1.out.c2
          have hs2 := HDM.out k hkm
          have hfk := HF.out.1 k hkm
          obtain ⟨d, hd⟩ : ∃ x, (q k).den = x := ⟨_, rfl⟩
          rw [hd] at hs2
          obtain ⟨r, hr⟩ : ∃ x, cc / d = x := ⟨_, rfl⟩
          obtain ⟨dr, hdr⟩ : ∃ x, cc % d = x := ⟨_, rfl⟩
          obtain ⟨nm, hnm⟩ : ∃ x, (q k).num.natAbs = x := ⟨_, rfl⟩
          obtain ⟨pr, hpr⟩ : ∃ x, nm * r = x := ⟨_, rfl⟩
          obtain ⟨sg0, hsg⟩ : ∃ x, ngv (q k) = x := ⟨_, rfl⟩
          have hz : intz q m k = (sg0, pr) := by
            unfold intz
            rw [hsg, hnm, HCC.out, hd, hr, hpr]
          have hrs : Sm r := HS0.out.1.le (hr ▸ Nat.div_le_self _ _)
          have hns : Sm nm := ⟨by have := hfk.num; rw [hnm] at this; have := HF.out.2; omega⟩
          have HDN : Aside0 (∀ U V : World, Below U.heap.size U V → Calls Tryd.prog 60 #[.agg #[.bool sg0, .string (enc nm), .string (encD d)]] V fun e w' => e = .returned (.string (enc d)) ∧ Below U.heap.size U w') := ⟨fun U V h => by
            have := denominator_c (q := q k) h
            rw [hsg, hnm, hd] at this
            exact this⟩
          have HDV : Aside0 (∀ U V : World, Below U.heap.size U V → Calls Tryd.prog 51 #[.string (enc cc), .string (enc d)] V fun e w' => e = .returned (.tuple #[.string (enc r), .string (enc dr), .bool true]) ∧ Below U.heap.size U w') := ⟨fun U V h => hdr ▸ hr ▸ div_s h HS0.out.1 hs2.1 hs2.2⟩
          have HMU : Aside0 (∀ U V : World, Below U.heap.size U V → Calls Tryd.prog 27 #[.string (enc nm), .string (enc r)] V fun e w' => e = .returned (.string (enc pr)) ∧ Below U.heap.size U w') := ⟨fun U V h => hpr ▸ mul_s h hns hrs⟩
          have HZZ := Aside0.mk hz
          simp only [hsg, hnm, hd] at e0 e1 e2
          clear hs2 hfk hd hr hdr hnm hpr hsg hz hrs hns
          go_upto_region 13 with (fail)
          clear e0 e1 e2
          obtain ⟨p12, hp12⟩ : ∃ x, wr.heap.size = x := ⟨_, rfl⟩
          obtain ⟨w5, hw5, HX, hV⟩ := box1 wr (.bool sg0) (.string (enc nm)) (.string (encD d)) 27
          rw [hw5]
          rw [hp12] at HX ⊢
          replace HV := Aside0.mk (below_step HV.out hV)
          replace HRZ := Aside0.mk (HRZ.out.below hV)
          clear hw5 hp12 hV E1
          have kx := (HX.out); have kx0 := kx.c0; have kx1 := kx.c1; have kx2 := kx.c2; have fx0 := kx.f0; have fx1 := kx.f1; have fx2 := kx.f2; clear kx
          go_upto_region 14 with (first
            | (go_at_call 60; (with_reducible refine (HDN.out _ _ (Below.refl _ _)).mono ?_); rintro e w1 ⟨rfl, hV⟩; replace HV := Aside0.mk (below_step HV.out hV); replace HRZ := Aside0.mk (HRZ.out.below hV); replace HX := Aside0.mk (HX.out.below hV); clear hV)
            | (go_at_call 51; (with_reducible refine (HDV.out _ _ (Below.refl _ _)).mono ?_); rintro e w1 ⟨rfl, hV⟩; replace HV := Aside0.mk (below_step HV.out hV); replace HRZ := Aside0.mk (HRZ.out.below hV); replace HX := Aside0.mk (HX.out.below hV); clear hV))
          clear kx0 kx1 kx2 fx0 fx1 fx2
          (refine wp_region_below_tail 10 (by kernel_rfl) (by kernel_rfl) ?_); (simp only [List.take_succ_cons, List.take_zero, List.drop_succ_cons, List.drop_zero]); (repeat (refine wpQuiet_step (fun K hK => ?_); go_simp; first | (refine hK _ ?_; clear hK K) | (apply Exists.intro; refine ⟨fun V hV => ?_, hK _ ?_⟩; (focus ((first | rfl | ((with_reducible exact HMU.out _ _ hV)) | ((have kx := (HX.out.below hV)); have kc0 := kx.c0; have kc1 := kx.c1; have kc2 := kx.c2; clear kx; go_simp; first | rfl | fail)))); clear hK K))); (refine wpQuiet_nil ?_); (intro V hV)
          replace HV := Aside0.mk (below_step HV.out hV)
          replace HRZ := Aside0.mk (HRZ.out.below hV)
          clear hV HX HMU HDV HDN
          have ee := (HRZ.out.el k hkm); have ea0 := ee.c0; have ea1 := ee.c1; clear ee; have eb0 := HRZ.out.fr (k * 2); have eb1 := HRZ.out.fr (k * 2 + 1)
          go_wp2
          clear ea0 ea1 eb0 eb1
          refine ⟨⟨k + 1, hkm, by go_num, ⟨(HRZ.out.set hkm (sg0, pr)).congr (fun j hj => ?_)⟩, ⟨(chg_set2 (S := fun x => x = g) (Chg.refl _ _) (.inl rfl) _ _).out HV.out (fun x hx => by rw [hx]; exact HGB.out)⟩⟩, ?_⟩
          · by_cases h1 : j = k
            · subst h1; rw [if_pos rfl, if_pos (by omega), HZZ.out]
            · rw [if_neg h1]
              by_cases h2 : j < k
              · rw [if_pos h2, if_pos (by omega)]
              · rw [if_neg h2, if_neg (by omega)]
          · simp [intOf]; omega
        · obtain rfl : m = k := by omega
          go_wp2
          go_ret
          exact ⟨g, rfl, below_step H0.out HV.out, HGB.out, HRZ.out.congr (fun j hj => by rw [if_pos hj])⟩
end Go.Proofs.YtiamgjepcagohaaDoor.P
end
section
/- Package linear: eliminate. -/
namespace Go.Proofs.YtiamgjepcagohaaDoor.P
open Go Go.RowKit Go.Proofs.YtiamgjepcagohaaDoorW.PrintWords Go.Proofs.YtiamgjepcagohaaDoorW.PrintLast Go.Proofs.YtiamgjepcagohaaDoorW.PrintMore Go.Proofs.YtiamgjepcagohaaDoor.Ari

abbrev Gz := Nat → Nat → Sg
def elimE (G : Gz) (k : Nat) (l : Sg) (i j : Nat) : Sg := zo (zm (zt (G k k) (G i j)) (zt (G i k) (G k j))) l
def elimZ (G : Gz) (k : Nat) (l : Sg) : Gz := fun i j => if i = k then G i j else if j = k then (false, 0) else elimE G k l i j
theorem zt_fit {a b : Sg} {N M : Nat} (h1 : nb a.2 ≤ N) (h2 : nb b.2 ≤ M) : nb (zt a b).2 ≤ N + M := nb_mul_le h1 h2
theorem zm_fit {a b : Sg} {N : Nat} (h1 : nb a.2 ≤ N) (h2 : nb b.2 ≤ N) : nb (zm a b).2 ≤ N + 1 := by
  unfold zm
  split
  · exact nb_add_le h1 h2
  · split
    · exact Nat.le_trans (nb_mono (Nat.sub_le _ _)) (by omega)
    · exact Nat.le_trans (nb_mono (Nat.sub_le _ _)) (by omega)
theorem zo_fit {a b : Sg} {N : Nat} (h1 : nb a.2 ≤ N) : nb (zo a b).2 ≤ N := Nat.le_trans (nb_mono (Nat.div_le_self _ _)) h1
theorem elimE_fit {G : Gz} {k i j N : Nat} {l : Sg} (h1 : nb (G k k).2 ≤ N) (h2 : nb (G i j).2 ≤ N) (h3 : nb (G i k).2 ≤ N) (h4 : nb (G k j).2 ≤ N) : nb (elimE G k l i j).2 ≤ N + N + 1 :=
  zo_fit (zm_fit (zt_fit h1 h2) (zt_fit h3 h4))

set_option maxHeartbeats 2000000 in
set_option maxRecDepth 1000000 in
theorem eliminate_c {w0 w : World} {g n m cap k N : Nat} {A C : Nat → Nat} {G : Gz} {l : Sg} (hB : Below w0.heap.size w0 w) (hG : GridZ w w0.heap.size g n m A C G) (hk : k < n) (hkm : k < m) (hn : n ≤ 1000) (hm : m ≤ 1000)
    (hF : ∀ i, i < n → ∀ j, j < m → nb (G i j).2 ≤ N) (hl : nb l.2 ≤ N) (hl0 : 0 < l.2) (hN : N + N + 1 + 1 ≤ 1073741824) :
    Calls Tryd.prog 41 #[.slice (some ⟨g, 0, none⟩) n cap, .int .i64 k, iv l] w fun e w' => e = .returned (.tuple #[]) ∧ Below w0.heap.size w0 w' ∧ GridZ w' w0.heap.size g n m A C (elimZ G k l) ∧ Chg w w' (fun b => ∃ i, i < n ∧ b = A i) := by
  have H0 := Aside0.mk hB
  obtain ⟨l1, l2⟩ := l
  obtain ⟨W, hW, H5, hbW⟩ := bz1 w (.bool l1) (.string (enc l2)) 68
  have HE := Aside0.mk hW
  have HG := Aside0.mk (hG.below hbW)
  have HGL : Aside0 (g < w.heap.size ∧ ∀ i, i < n → A i < w.heap.size) := ⟨hG.lt, fun i hi => (hG.rows i hi).lt⟩
  have HGE : Aside0 (∀ i, i < n → w0.heap.size ≤ A i) := ⟨hG.ge⟩
  have HB1 : Aside0 (Chg w W (fun b => ∃ i, i < n ∧ b = A i)) := ⟨Chg.of_below hbW _⟩
  have HF := Aside0.mk (And.intro hF (And.intro hl (And.intro hl0 hN)))
  obtain ⟨p5, hp5⟩ : ∃ x, w.heap.size = x := ⟨_, rfl⟩
  rw [hp5] at H5
  have HP5 := Aside0.mk hp5
  have hlt5 := H5.out.lt
  clear hB hG hW hbW hF hl hl0 hN
  go_enter Tryd.func41, Tryd.ntmps41
  go_upto_region 1 with (fail)
  rw [HE.out]
  clear hp5
  have t1 := HG.out.top k hk
  have t2 := ((HG.out.rows k hk).el k hkm)
  obtain ⟨⟨d1, d2⟩, hd⟩ : ∃ e, G k k = e := ⟨_, rfl⟩
  rw [hd] at t2
  have HD := Aside0.mk hd
  have t20 := t2.c0
  have t21 := t2.c1
  clear hd t2
  simp only at t20 t21
  go_upto_region 2 with (fail)
  clear t1 t20 t21
  obtain ⟨p6, hp6⟩ : ∃ x, W.heap.size = x := ⟨_, rfl⟩
  obtain ⟨w5, hw5, H6, hV⟩ := bz1 W (.bool d1) (.string (enc d2)) 68
  rw [hw5]
  rw [hp6] at H6 hlt5 ⊢
  have HP6 : Aside0 (p5 < p6) := ⟨hlt5⟩
  replace HG := Aside0.mk (HG.out.below hV)
  replace HB1 := Aside0.mk (HB1.out.below hV)
  replace H5 := Aside0.mk (H5.out.below hV)
  clear hw5 hp6 hV hlt5 HE
  go_wp2
  go_loopw [20] (fun v20 wr => ∃ i : Nat, i ≤ n ∧ v20 = .int .i64 i ∧ Aside0 (GridZ wr w0.heap.size g n m A C (fun a b => if a < i then elimZ G k (l1, l2) a b else G a b)) ∧ Aside0 (Bz wr p5 (.bool l1) (.string (enc l2))) ∧ Aside0 (Bz wr p6 (.bool d1) (.string (enc d2))) ∧ Aside0 (Chg w wr (fun b => ∃ i, i < n ∧ b = A i))) (fun v20 _ => n - (intOf v20).toNat)
  case atStart => exact ⟨0, by omega, rfl, ⟨HG.out.congr (fun a ha b hb => by rw [if_neg (by omega)])⟩, H5, H6, HB1⟩
  case round =>
    clear HG H5 H6 HB1
    obtain ⟨i, hi, rfl, HG, H5, H6, HB1⟩ := hrel
    by_cases hin : i < n
    · have t1 := HG.out.top i hin
      by_cases hik : i = k
      · subst hik
        go_wp2
        refine ⟨⟨i + 1, hin, by go_num, ⟨HG.out.congr (fun a ha b hb => ?_)⟩, H5, H6, HB1⟩, ?_⟩
        · by_cases h1 : a < i
          · rw [if_pos h1, if_pos (by omega)]
          · rw [if_neg h1]
            by_cases h2 : a < i + 1
            · rw [if_pos h2]; unfold elimZ; rw [if_pos (show a = i by omega)]
            · rw [if_neg h2]
        · simp [intOf]; omega
      · have hik2 : ((i : Int) == (k : Int)) = false := by simp; omega
        have HIK := Aside0.mk hik
        have E1 := Aside0.mk ((HG.out.rows i hin).el k hkm)
        simp only [Nat.lt_irrefl, if_false] at E1
        obtain ⟨⟨f1, f2⟩, hf⟩ : ∃ e, G i k = e := ⟨_, rfl⟩
        rw [hf] at E1
        have HFF := Aside0.mk hf
        have e0 := E1.out.c0
        have e1 := E1.out.c1
        clear hf E1 hik
        simp only at e0 e1
        go_upto_region 7 with (fail)
        clear t1 e0 e1
        obtain ⟨p9, hp9⟩ : ∃ x, wr.heap.size = x := ⟨_, rfl⟩
        obtain ⟨w5, hw5, H9, hV⟩ := bz1 wr (.bool f1) (.string (enc f2)) 68
        have HP9 : Aside0 (p6 < p9) := ⟨hp9 ▸ H6.out.lt⟩
        rw [hw5]
        rw [hp9] at H9 ⊢
        replace HG := Aside0.mk (HG.out.below hV); replace HB1 := Aside0.mk (HB1.out.below hV); replace H5 := Aside0.mk (H5.out.below hV); replace H6 := Aside0.mk (H6.out.below hV)
        clear hw5 hp9 hV
        go_wp2
        go_loopw [34] (fun v34 wr => ∃ j : Nat, j ≤ m ∧ v34 = .int .i64 j ∧ Aside0 (GridZ wr w0.heap.size g n m A C (fun a b => if a < i then elimZ G k (l1, l2) a b else if a = i then (if b < j then (if b = k then G i b else elimE G k (l1, l2) i b) else G i b) else G a b)) ∧ Aside0 (Bz wr p5 (.bool l1) (.string (enc l2))) ∧ Aside0 (Bz wr p6 (.bool d1) (.string (enc d2))) ∧ Aside0 (Bz wr p9 (.bool f1) (.string (enc f2))) ∧ Aside0 (Chg w wr (fun b => ∃ i, i < n ∧ b = A i))) (fun v34 _ => m - (intOf v34).toNat)
        case atStart => exact ⟨0, by omega, rfl, ⟨HG.out.congr (fun a ha b hb => by
          by_cases h1 : a < i
          · rw [if_pos h1, if_pos h1]
          · rw [if_neg h1, if_neg h1]
            by_cases h2 : a = i
            · rw [if_pos h2, if_neg (by omega), h2]
            · rw [if_neg h2])⟩, H5, H6, H9, HB1⟩
        case round =>
          clear HG H5 H6 H9 HB1
          obtain ⟨j, hj, rfl, HG, H5, H6, H9, HB1⟩ := hrel
          by_cases hjm : j < m
          · by_cases hjk : j = k
            · subst hjk
              go_wp2
              refine ⟨⟨j + 1, hjm, by go_num, ⟨HG.out.congr (fun a ha b hb => ?_)⟩, H5, H6, H9, HB1⟩, ?_⟩
              · by_cases h1 : a < i
                · rw [if_pos h1, if_pos h1]
                · rw [if_neg h1, if_neg h1]
                  by_cases h2 : a = i
                  · rw [if_pos h2, if_pos h2]
                    by_cases h3 : b < j
                    · rw [if_pos h3, if_pos (show b < j + 1 by omega)]
                    · rw [if_neg h3]
                      by_cases h4 : b < j + 1
                      · rw [if_pos h4, if_pos (show b = j by omega)]
                      · rw [if_neg h4]
                  · rw [if_neg h2, if_neg h2]
              · simp [intOf]; omega
            · have hjk2 : ((j : Int) == (k : Int)) = false := by simp; omega
              have HJK := Aside0.mk hjk
              clear hjk
              have E2 := Aside0.mk ((HG.out.rows i hin).el j hjm)
              simp only [Nat.lt_irrefl, if_false, if_true] at E2
              have E3 := Aside0.mk ((HG.out.rows k hk).el j hjm)
              have hkj : (if k < i then elimZ G k (l1, l2) k j else if k = i then (if j < j then (if j = k then G i j else elimE G k (l1, l2) i j) else G i j) else G k j) = G k j := by
                by_cases h1 : k < i
                · rw [if_pos h1]; unfold elimZ; rw [if_pos rfl]
                · rw [if_neg h1, if_neg (fun e => HIK.out e.symm)]
              rw [hkj] at E3
              clear hkj
              have F1 := HF.out.1 i hin j hjm
              have F2 := HF.out.1 k hk j hjm
              have F3 := HF.out.1 i hin k hkm
              have F4 := HF.out.1 k hk k hkm
              have FN := HF.out.2.2.2
              have hE : elimE G k (l1, l2) i j = zo (zm (zt (G k k) (G i j)) (zt (G i k) (G k j))) (l1, l2) := rfl
              rw [HD.out] at F4 hE
              rw [HFF.out] at F3 hE
              obtain ⟨⟨r1, r2⟩, hr⟩ : ∃ e, G i j = e := ⟨_, rfl⟩
              obtain ⟨⟨c1, c2⟩, hc⟩ : ∃ e, G k j = e := ⟨_, rfl⟩
              rw [hr] at E2 F1 hE
              rw [hc] at E3 F2 hE
              obtain ⟨u1, hu1⟩ : ∃ u, zt (d1, d2) (r1, r2) = u := ⟨_, rfl⟩
              obtain ⟨u2, hu2⟩ : ∃ u, zt (f1, f2) (c1, c2) = u := ⟨_, rfl⟩
              have FU1 : nb u1.2 ≤ N + N := hu1 ▸ zt_fit F4 F1
              have FU2 : nb u2.2 ≤ N + N := hu2 ▸ zt_fit F3 F2
              obtain ⟨u3, hu3⟩ : ∃ u, zm u1 u2 = u := ⟨_, rfl⟩
              have FU3 : nb u3.2 ≤ N + N + 1 := hu3 ▸ zm_fit FU1 FU2
              obtain ⟨u4, hu4⟩ : ∃ u, zo u3 (l1, l2) = u := ⟨_, rfl⟩
              rw [hu1, hu2, hu3, hu4] at hE
              have HEE := Aside0.mk hE
              have HT1 : Aside0 (∀ U V : World, Below U.heap.size U V → Calls Tryd.prog 61 #[.agg #[.bool d1, .string (enc d2)], .agg #[.bool r1, .string (enc r2)]] V fun e w' => e = .returned (iv u1) ∧ Below U.heap.size U w') := ⟨fun U V h => hu1 ▸ times_c h F4 F1 (by omega)⟩
              have HT2 : Aside0 (∀ U V : World, Below U.heap.size U V → Calls Tryd.prog 61 #[.agg #[.bool f1, .string (enc f2)], .agg #[.bool c1, .string (enc c2)]] V fun e w' => e = .returned (iv u2) ∧ Below U.heap.size U w') := ⟨fun U V h => hu2 ▸ times_c h F3 F2 (by omega)⟩
              have HT3 : Aside0 (∀ U V : World, Below U.heap.size U V → Calls Tryd.prog 62 #[iv u1, iv u2] V fun e w' => e = .returned (iv u3) ∧ Below U.heap.size U w') := ⟨fun U V h => hu3 ▸ minusZ_c h FU1 FU2 (by omega)⟩
              have HT4 : Aside0 (∀ U V : World, Below U.heap.size U V → Calls Tryd.prog 63 #[iv u3, .agg #[.bool l1, .string (enc l2)]] V fun e w' => e = .returned (iv u4) ∧ Below U.heap.size U w') := ⟨fun U V h => hu4 ▸ over_c h FU3 (Nat.le_trans HF.out.2.1 (by omega)) (by omega) HF.out.2.2.1⟩
              clear F1 F2 F3 F4 FN hE hr hc hu1 hu2 hu3 hu4 FU1 FU2 FU3
              go_upto_region 11 with (fail)
              (refine wp_region_below_tail 21 (by kernel_rfl) (by kernel_rfl) ?_); (simp only [List.take_succ_cons, List.take_zero, List.drop_succ_cons, List.drop_zero]); (repeat (refine wpQuiet_step (fun K hK => ?_); go_simp; first | (refine hK _ ?_; clear hK K) | (apply Exists.intro; refine ⟨fun V hV => ?_, hK _ ?_⟩; (focus ((first | rfl | ((with_reducible exact HT1.out _ _ hV)) | ((with_reducible exact HT2.out _ _ hV)) | ((with_reducible exact HT3.out _ _ hV)) | ((with_reducible exact HT4.out _ _ hV)) | ((have kx := (HG.out.below hV).top k hk); go_simp; first | rfl | fail) | ((have kx := (E2.out.below hV)); have kc0 := kx.c0; have kc1 := kx.c1; clear kx; go_simp; first | rfl | fail) | ((have kx := (E3.out.below hV)); have kc0 := kx.c0; have kc1 := kx.c1; clear kx; go_simp; first | rfl | fail) | ((have kx := (H5.out.below hV)); have kc0 := kx.c0; have kc1 := kx.c1; clear kx; go_simp; first | rfl | fail) | ((have kx := (H6.out.below hV)); have kc0 := kx.c0; have kc1 := kx.c1; clear kx; go_simp; first | rfl | fail) | ((have kx := (H9.out.below hV)); have kc0 := kx.c0; have kc1 := kx.c1; clear kx; go_simp; first | rfl | fail)))); clear hK K))); (refine wpQuiet_nil ?_); (intro V hV)
              replace HG := Aside0.mk (HG.out.below hV); replace HB1 := Aside0.mk (HB1.out.below hV); replace H5 := Aside0.mk (H5.out.below hV); replace H6 := Aside0.mk (H6.out.below hV)
              replace H9 := Aside0.mk (H9.out.below hV)
              clear hV E2 E3 HT1 HT2 HT3 HT4
              have ee := ((HG.out.rows i hin).el j hjm); have ea0 := ee.c0; have ea1 := ee.c1; clear ee; have eb0 := (HG.out.rows i hin).fr (j * 2); have eb1 := (HG.out.rows i hin).fr (j * 2 + 1)
              go_wp2
              clear ea0 ea1 eb0 eb1
              have hc := chg_set2 (S := fun b => b = A i) (b := A i) (o := j * 2) (Chg.refl V _) (.inl rfl) (.bool u4.1) (.string (enc u4.2))
              have hg := HG.out.row hin hc ((HG.out.rows i hin).set hjm u4)
              obtain ⟨w7, hw7⟩ : ∃ w7, (V.setCell ⟨A i, j * 2, none⟩ (.bool u4.1)).setCell ⟨A i, j * 2 + 1, none⟩ (.string (enc u4.2)) = w7 := ⟨_, rfl⟩
              rw [hw7] at hc hg ⊢
              replace HB1 := Aside0.mk (HB1.out.then_ hc (fun x hx => .inl ⟨i, hin, hx⟩)); replace H5 := Aside0.mk (H5.out.chg hc (fun e => by have := HGL.out.2 i hin; have := HP5.out; omega)); replace H6 := Aside0.mk (H6.out.chg hc (fun e => by have := HGL.out.2 i hin; have := HP5.out; have := HP6.out; omega)); (try replace H9 := Aside0.mk (H9.out.chg hc (fun e => by have := HGL.out.2 i hin; have := HP5.out; have := HP6.out; have := HP9.out; omega)))
              refine ⟨⟨j + 1, hjm, by go_num, ⟨hg.congr (fun a ha b hb => ?_)⟩, H5, H6, H9, HB1⟩, ?_⟩
              · by_cases h2 : a = i
                · subst h2
                  simp only [if_true, Nat.lt_irrefl, if_false]
                  by_cases h3 : b = j
                  · subst h3
                    rw [if_pos rfl, if_pos (show b < b + 1 by omega), if_neg HJK.out, HEE.out]
                  · rw [if_neg h3]
                    by_cases h4 : b < j
                    · rw [if_pos h4, if_pos (show b < j + 1 by omega)]
                    · rw [if_neg h4, if_neg (show ¬ b < j + 1 by omega)]
                · simp only [if_neg h2]
              · simp [intOf]; omega
          · obtain rfl : m = j := by omega
            have t1 := HG.out.top i hin
            have ee := ((HG.out.rows i hin).el k hkm); have ea0 := ee.c0; have ea1 := ee.c1; clear ee; have eb0 := (HG.out.rows i hin).fr (k * 2); have eb1 := (HG.out.rows i hin).fr (k * 2 + 1)
            go_wp2
            clear t1 ea0 ea1 eb0 eb1
            have hc := chg_set2 (S := fun b => b = A i) (b := A i) (o := k * 2) (Chg.refl wr _) (.inl rfl) (.bool false) (.string ⟨#[]⟩)
            have hg := HG.out.row hin hc (by
              have := (HG.out.rows i hin).set hkm (false, 0)
              rw [enc_zero] at this
              exact this)
            obtain ⟨w7, hw7⟩ : ∃ w7, (wr.setCell ⟨A i, k * 2, none⟩ (.bool false)).setCell ⟨A i, k * 2 + 1, none⟩ (.string ⟨#[]⟩) = w7 := ⟨_, rfl⟩
            rw [hw7] at hc hg ⊢
            replace HB1 := Aside0.mk (HB1.out.then_ hc (fun x hx => .inl ⟨i, hin, hx⟩)); replace H5 := Aside0.mk (H5.out.chg hc (fun e => by have := HGL.out.2 i hin; have := HP5.out; omega)); replace H6 := Aside0.mk (H6.out.chg hc (fun e => by have := HGL.out.2 i hin; have := HP5.out; have := HP6.out; omega)); (try replace H9 := Aside0.mk (H9.out.chg hc (fun e => by have := HGL.out.2 i hin; have := HP5.out; have := HP6.out; have := HP9.out; omega)))
            refine ⟨⟨i + 1, hin, by go_num, ⟨hg.congr (fun a ha b hb => ?_)⟩, H5, H6, HB1⟩, ?_⟩
            · by_cases h2 : a = i
              · subst h2
                simp only [if_true, Nat.lt_irrefl, if_false]
                rw [if_pos (show a < a + 1 by omega)]
                unfold elimZ
                rw [if_neg HIK.out]
                by_cases h3 : b = k
                · simp only [if_pos h3]
                · simp only [if_neg h3, if_pos hb]
              · simp only [if_neg h2]
                by_cases h1 : a < i
                · rw [if_pos h1, if_pos (by omega)]
                · rw [if_neg h1, if_neg (by omega)]
            · simp [intOf]; omega
    · obtain rfl : n = i := by omega
      go_wp2
      go_end0
      exact ⟨rfl, HB1.out.out H0.out (fun x hx => by obtain ⟨i, hi, e⟩ := hx; rw [e]; exact HGE.out i hi), HG.out.congr (fun a ha b hb => by rw [if_pos ha]), HB1.out⟩
end Go.Proofs.YtiamgjepcagohaaDoor.P
end
section
/- Package linear: the search for a pivot in Solve. -/
namespace Go.Proofs.YtiamgjepcagohaaDoor.P
open Go Go.RowKit Go.Proofs.YtiamgjepcagohaaDoorW.PrintWords Go.Proofs.YtiamgjepcagohaaDoorW.PrintLast Go.Proofs.YtiamgjepcagohaaDoorW.PrintMore Go.Proofs.YtiamgjepcagohaaDoor.Ari

set_option maxHeartbeats 2000000 in
set_option maxRecDepth 1000000 in
theorem Solve1_c {w0 w : World} {b m p c k : Nat} {q : Nat → Sg} (hB : Below w0.heap.size w0 w) (hQ : RowZ w b m q) (hp : w.cell? ⟨p, 0, none⟩ = some (.int .i64 (k : Int))) (hk : k < m) :
    Calls Tryd.prog 40 #[.slice (some ⟨b, 0, none⟩) m c, .pointer (some ⟨p, 0, none⟩)] w fun e w' => e = .returned (.bool (decide ((q k).2 ≠ 0))) ∧ Below w0.heap.size w0 w' := by
  have H0 := Aside0.mk hB
  have t1 := (hQ.el k hk).c1
  obtain ⟨x, hx⟩ : ∃ x, (q k).2 = x := ⟨_, rfl⟩
  rw [hx] at t1 ⊢
  have he := empty_enc x
  obtain ⟨s, hs⟩ : ∃ s, enc x = s := ⟨_, rfl⟩
  rw [hs] at t1 he
  obtain ⟨z, hz⟩ : ∃ z, decide (x = 0) = z := ⟨_, rfl⟩
  have hd : decide (x ≠ 0) = !z := by rw [← hz]; simp
  rw [hd]
  rw [hz] at he
  clear hB hQ hx hs hz hd
  go_enter Tryd.func40, Tryd.ntmps40
  go_wp2
  go_ret
  refine ⟨?_, H0.out⟩
  simp [he]

/-- The first row from i on whose number in column c is not 0. -/
def pvz (G : Gz) (c : Nat) : Nat → Nat → Option Nat
  | 0, _ => none
  | f + 1, i => if (G i c).2 = 0 then pvz G c f (i + 1) else some i
def pvR (k : Nat) : Option Nat → Int | none => -1 | some i => (i : Int) - k
set_option maxHeartbeats 2000000 in
set_option maxRecDepth 1000000 in
theorem IndexFunc_c {w0 w : World} {B g n m p cap k : Nat} {A C : Nat → Nat} {G : Gz} (hB : Below w0.heap.size w0 w) (hG : GridZ w B g n m A C G) (hp : w.cell? ⟨p, 0, none⟩ = some (.int .i64 (k : Int))) (hk : k ≤ n) (hkm : k < m) (hn : n ≤ 1000) :
    Calls Tryd.prog 39 #[.slice (some ⟨g, k, none⟩) (n - k) cap, .func (.func 40) #[] #[.pointer (some ⟨p, 0, none⟩)]] w fun e w' => e = .returned (.int .i64 (pvR k (pvz G k (n - k) k))) ∧ Below w0.heap.size w0 w' := by
  have H0 := Aside0.mk hB
  have HG := Aside0.mk hG
  have HP := Aside0.mk hp
  obtain ⟨out, ho⟩ : ∃ x, pvz G k (n - k) k = x := ⟨_, rfl⟩
  rw [ho]
  have HO := Aside0.mk ho
  obtain ⟨l, hl⟩ : ∃ l, n - k = l := ⟨_, rfl⟩
  rw [hl] at HO ⊢
  have HL : Aside0 (k + l = n) := ⟨by omega⟩
  have hl1 : l ≤ 1000 := by omega
  clear hB hG ho hp hl hk
  go_enter Tryd.func39, Tryd.ntmps39
  go_wp2
  go_loopw [8] (fun v8 wr => ∃ i : Nat, i ≤ l ∧ v8 = .int .i64 i ∧ Aside0 (pvz G k (l - i) (k + i) = out) ∧ Aside0 (Below w.heap.size w wr)) (fun v8 _ => l - (intOf v8).toNat)
  case atStart => exact ⟨0, by omega, rfl, HO, ⟨Below.refl _ _⟩⟩
  case round =>
    obtain ⟨i, hi, rfl, HI, HV⟩ := hrel
    by_cases hil : i < l
    · have HG1 := Aside0.mk (HG.out.below HV.out)
      have hin : k + i < n := by have := HL.out; omega
      have t1 := HG1.out.top (k + i) hin
      have t2 := cell_below HV.out HP.out
      have HC : Aside0 (Calls Tryd.prog 40 #[.slice (some ⟨A (k + i), 0, none⟩) m (C (k + i)), .pointer (some ⟨p, 0, none⟩)] wr fun e w' => e = .returned (.bool (decide ((G (k + i) k).2 ≠ 0))) ∧ Below wr.heap.size wr w') := ⟨Solve1_c (Below.refl _ _) (HG1.out.rows (k + i) hin) t2 hkm⟩
      have hf : l - i = (l - (i + 1)) + 1 := by omega
      have HF := Aside0.mk hf
      clear hf
      by_cases hz : (G (k + i) k).2 = 0
      · have hz2 : decide ((G (k + i) k).2 ≠ 0) = false := by simp [hz]
        rw [hz2] at HC
        have HZ := Aside0.mk hz
        clear hz hz2
        go_wp2_with (go_at_call 40; (with_reducible refine HC.out.mono ?_); rintro e w1 ⟨rfl, hV⟩; replace HV := Aside0.mk (below_step HV.out hV); clear hV)
        refine ⟨⟨i + 1, hil, by go_num, ⟨?_⟩, HV⟩, ?_⟩
        · have := HI.out
          rw [HF.out, pvz, if_pos HZ.out] at this
          exact this
        · simp [intOf]; omega
      · have hz2 : decide ((G (k + i) k).2 ≠ 0) = true := by simp [hz]
        rw [hz2] at HC
        have HZ := Aside0.mk hz
        clear hz hz2
        go_wp2_with (go_at_call 40; (with_reducible refine HC.out.mono ?_); rintro e w1 ⟨rfl, hV⟩; replace HV := Aside0.mk (below_step HV.out hV); clear hV)
        go_ret
        have := HI.out
        rw [HF.out, pvz, if_neg HZ.out] at this
        rw [← this]
        refine ⟨?_, below_step H0.out HV.out⟩
        simp [pvR]
        omega
    · obtain rfl : l = i := by omega
      go_wp2
      go_ret
      have := HI.out
      rw [Nat.sub_self] at this
      rw [← this]
      exact ⟨rfl, below_step H0.out HV.out⟩
end Go.Proofs.YtiamgjepcagohaaDoor.P
end
section
/- The elimination over integers, as Solve does it: plain laws. -/
namespace Go.Proofs.YtiamgjepcagohaaDoor.P
open Go Go.RowKit Go.Proofs.YtiamgjepcagohaaDoorW.PrintWords Go.Proofs.YtiamgjepcagohaaDoorW.PrintLast Go.Proofs.YtiamgjepcagohaaDoorW.PrintMore Go.Proofs.YtiamgjepcagohaaDoor.Ari

def bar (n : Nat) : Nat → Nat → Sg → Gz → Option Gz
  | 0, _, _, G => some G
  | f + 1, k, l, G =>
    match pvz G k (n - k) k with
    | none => none
    | some a => bar n f (k + 1) (G a k) (elimZ (swapZ G k a) k l)
theorem pvz_some {G : Gz} {c : Nat} : ∀ {f i a : Nat}, pvz G c f i = some a → i ≤ a ∧ a < i + f ∧ (G a c).2 ≠ 0
  | 0, i, a, h => by simp [pvz] at h
  | f + 1, i, a, h => by
    rw [pvz] at h
    split at h
    · have := pvz_some h
      exact ⟨by omega, by omega, this.2.2⟩
    · rename_i h2
      injection h with h
      subst h
      exact ⟨Nat.le_refl _, by omega, h2⟩
theorem zm_zero {a b : Sg} (h : b.2 = 0) : (zm a b).2 = a.2 := by
  unfold zm
  split
  · simp [h]
  · rw [if_pos (by omega)]; simp [h]
theorem swapZ_left (G : Gz) (i j : Nat) : swapZ G i j i = G j := by unfold swapZ; rw [if_pos rfl]
structure BInv (n k K : Nat) (l : Sg) (G : Gz) (OUT : Option Gz) : Prop where
  kle : k ≤ n
  run : bar n (n - k) k l G = OUT
  ent : ∀ i, i < n → ∀ j, j < n + 1 → nb (G i j).2 ≤ K
  lf : nb l.2 ≤ K
  l0 : 0 < l.2
  one : 1 ≤ K
  room : K * 3 ^ (n - k) ≤ 1073741824
  dia : ∀ i, i < k → (G i i).2 = l.2
  off : ∀ i, i < k → ∀ j, j < n → j ≠ i → (G j i).2 = 0
section
variable {n k K : Nat} {l : Sg} {G : Gz} {OUT : Option Gz}
theorem BInv.small (h : BInv n k K l G OUT) : K ≤ 1073741824 := Nat.le_trans (Nat.le_mul_of_pos_right K (Nat.pow_pos (by decide))) h.room
theorem BInv.end_ (h : BInv n n K l G OUT) : OUT = some G := by
  rw [← h.run, Nat.sub_self]; rfl
theorem BInv.step (h : BInv n k K l G OUT) {a : Nat} (hk : k < n) (hp : pvz G k (n - k) k = some a) :
    BInv n (k + 1) (3 * K) (G a k) (elimZ (swapZ G k a) k l) OUT ∧ 3 * K ≤ 1073741824 := by
  obtain ⟨h1, h2, h3⟩ := pvz_some hp
  have ha : a < n := by omega
  have hone := h.one
  have hroom : 3 * K * 3 ^ (n - (k + 1)) ≤ 1073741824 := by
    have := h.room
    rw [show n - k = (n - (k + 1)) + 1 by omega, Nat.pow_succ] at this
    calc 3 * K * 3 ^ (n - (k + 1)) = K * (3 ^ (n - (k + 1)) * 3) := by grind
      _ ≤ _ := this
  have hrun : bar n (n - (k + 1)) (k + 1) (G a k) (elimZ (swapZ G k a) k l) = OUT := by
    rw [← h.run]
    conv => rhs; rw [show n - k = (n - (k + 1)) + 1 by omega, bar]
    simp only [hp]
  have hs : ∀ i, i < n → ∃ i', i' < n ∧ swapZ G k a i = G i' ∧ (i < k → i' = i) ∧ (i ≠ k → i' ≠ i → i' = k) := by
    intro i hi
    unfold swapZ
    split
    · exact ⟨a, ha, rfl, fun h => by omega, fun h => by omega⟩
    · split
      · exact ⟨k, hk, rfl, fun h => by omega, fun _ _ => rfl⟩
      · exact ⟨i, hi, rfl, fun _ => rfl, fun _ h => absurd rfl h⟩
  have hkk : swapZ G k a k = G a := swapZ_left G k a
  refine ⟨⟨by omega, hrun, ?_, Nat.le_trans (h.ent a ha k (by omega)) (by omega), Nat.pos_of_ne_zero h3, by omega, hroom, ?_, ?_⟩, Nat.le_trans (Nat.le_mul_of_pos_right _ (Nat.pow_pos (by decide))) hroom⟩
  · intro i hi j hj
    obtain ⟨i', hi', e, _, _⟩ := hs i hi
    unfold elimZ
    split
    · rw [e]; exact Nat.le_trans (h.ent i' hi' j hj) (by omega)
    · split
      · rw [nb_zero]; omega
      · refine Nat.le_trans (elimE_fit (N := K) ?_ ?_ ?_ ?_) (by omega)
        · rw [hkk]; exact h.ent a ha k (by omega)
        · rw [e]; exact h.ent i' hi' j hj
        · rw [e]; exact h.ent i' hi' k (by omega)
        · rw [hkk]; exact h.ent a ha j hj
  · intro i hi
    unfold elimZ
    by_cases e : i = k
    · rw [if_pos e, e, hkk]
    · obtain ⟨i', hi', e1, e2, _⟩ := hs i (by omega)
      have := e2 (by omega)
      subst this
      rw [if_neg e, if_neg e]
      unfold elimE
      have hz : (zt (swapZ G k a i' k) (swapZ G k a k i')).2 = 0 := by
        show _ * _ = 0
        rw [hkk, h.off i' (by omega) a ha (by omega), Nat.mul_zero]
      show (zm _ _).2 / l.2 = _
      rw [zm_zero hz, hkk, e1]
      show (G a k).2 * (G i' i').2 / l.2 = _
      rw [h.dia i' (by omega), Nat.mul_div_cancel _ h.l0]
  · intro i hi j hj hji
    unfold elimZ
    by_cases e : j = k
    · rw [if_pos e, e, hkk]
      exact h.off i (by omega) a ha (by omega)
    · rw [if_neg e]
      by_cases e2 : i = k
      · rw [if_pos e2]
      · rw [if_neg e2]
        obtain ⟨j', hj', e1, e3, e4⟩ := hs j hj
        have hj0 : (G j' i).2 = 0 := by
          refine h.off i (by omega) j' hj' ?_
          by_cases e5 : j' = j
          · omega
          · have := e4 e e5; omega
        unfold elimE
        have hz : (zt (swapZ G k a j k) (swapZ G k a k i)).2 = 0 := by
          show _ * _ = 0
          rw [hkk, h.off i (by omega) a ha (by omega), Nat.mul_zero]
        show (zm _ _).2 / l.2 = 0
        rw [zm_zero hz, e1]
        show _ * (G j' i).2 / l.2 = 0
        rw [hj0, Nat.mul_zero, Nat.zero_div]
end
/-- The numbers of row i with its right side. -/
def qrow (E : Nat → Nat → Raw) (X : Nat → Raw) (n i : Nat) : Nat → Rat := fun k => if k < n then val (E i k) else val (X i)
def zrows (E : Nat → Nat → Raw) (X : Nat → Raw) (n : Nat) : Gz := fun i => intz (qrow E X n i) (n + 1)
theorem qrow_fit {E : Nat → Nat → Raw} {X : Nat → Raw} {n N i : Nat} (hE : ∀ k, k < n → FitS N (E i k).2.1 (E i k).2.2) (hX : FitS N (X i).2.1 (X i).2.2) : ∀ k, k < n + 1 → Fit N (qrow E X n i k) := by
  intro k hk
  unfold qrow
  split
  · exact (hE k (by omega)).val
  · exact hX.val
theorem zrows_inv {E : Nat → Nat → Raw} {X : Nat → Raw} {n N : Nat} {OUT : Option Gz} (hE : ∀ i, i < n → ∀ k, k < n → FitS N (E i k).2.1 (E i k).2.2) (hX : ∀ i, i < n → FitS N (X i).2.1 (X i).2.2)
    (hN : (1 + (n + 2) * N) * 3 ^ n ≤ 1073741824) (ho : bar n n 0 (false, 1) (zrows E X n) = OUT) : BInv n 0 (1 + (n + 2) * N) (false, 1) (zrows E X n) OUT := by
  refine ⟨Nat.zero_le _, by rw [Nat.sub_zero]; exact ho, fun i hi j hj => ?_, by rw [nb_one]; omega, Nat.one_pos, by omega, by rw [Nat.sub_zero]; exact hN, fun i hi => by omega, fun i hi => by omega⟩
  have hq := qrow_fit (hE i hi) (hX i hi)
  have h1 := nb_mul_le (hq j hj).num (Nat.le_trans (nb_mono (Nat.div_le_self (comm (qrow E X n i) (n + 1)) (qrow E X n i j).den)) (comm_nb hq (n + 1) (Nat.le_refl _)))
  have h2 : (n + 2) * N = (n + 1) * N + N := Nat.succ_mul (n + 1) N
  show nb (_ * _) ≤ _
  omega
end Go.Proofs.YtiamgjepcagohaaDoor.P
end
