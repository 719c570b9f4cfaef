/- ClKer: lemmas of this claim, of 3 texts. -/
import Derived.Test.YtiamgjepcagohaaDoorClEch
import Derived.Test.YtiamgjepcagohaaDoorClLin2
import Derived.Deep.OwnRows
section
/- Package linear: clean. -/
namespace Go.Proofs.YtiamgjepcagohaaDoor.P
open Go Go.RowKit Go.Proofs.YtiamgjepcagohaaDoorW.PrintWords Go.Proofs.YtiamgjepcagohaaDoorW.PrintLast Go.Proofs.YtiamgjepcagohaaDoorW.PrintMore Go.Proofs.YtiamgjepcagohaaDoor.Ari

/-- The cells of k numbers. -/
def rcells (q : Nat → Rat) : Nat → List Value
  | 0 => []
  | k + 1 => rcells q k ++ [.bool (ngv (q k)), .string (enc (q k).num.natAbs), .string (encD (q k).den)]
theorem rcells_length (q : Nat → Rat) : ∀ k, (rcells q k).length = k * 3
  | 0 => rfl
  | k + 1 => by rw [rcells, List.length_append, rcells_length q k]; simp; omega
theorem rcells_get (q : Nat → Rat) {i : Nat} : ∀ k, i < k → (rcells q k)[i * 3]? = some (.bool (ngv (q i))) ∧ (rcells q k)[i * 3 + 1]? = some (.string (enc (q i).num.natAbs)) ∧ (rcells q k)[i * 3 + 2]? = some (.string (encD (q i).den))
  | 0, h => by omega
  | k + 1, h => by
    rw [rcells]
    have hl := rcells_length q k
    by_cases e : i = k
    · subst e
      rw [List.getElem?_append_right (show (rcells q i).length ≤ i * 3 by omega), List.getElem?_append_right (show (rcells q i).length ≤ i * 3 + 1 by omega), List.getElem?_append_right (show (rcells q i).length ≤ i * 3 + 2 by omega), hl]
      simp
    · obtain ⟨h1, h2, h3⟩ := rcells_get q (i := i) k (by omega)
      rw [List.getElem?_append_left (show i * 3 < (rcells q k).length by omega), List.getElem?_append_left (show i * 3 + 1 < (rcells q k).length by omega), List.getElem?_append_left (show i * 3 + 2 < (rcells q k).length by omega)]
      exact ⟨h1, h2, h3⟩
abbrev OwnQ (W : World) (b : Nat) (v : Value) (k : Nat) (q : Nat → Rat) : Prop := W.ownsRow b 27 3 v k (rcells q k)
theorem own_rowV {W : World} {b k g cap : Nat} {q : Nat → Rat} (h : OwnQ W b (.slice (some ⟨g, 0, none⟩) k cap) k q) : RowV W g k q := by
  refine ⟨(h.lt g rfl).2, fun i hi => ?_, fun o => h.frozenAt o⟩
  obtain ⟨h1, h2, h3⟩ := rcells_get q k hi
  exact ⟨(h.cellAt (i * 3) (by omega)).trans h1, (h.cellAt (i * 3 + 1) (by omega)).trans h2, (h.cellAt (i * 3 + 2) (by omega)).trans h3⟩
theorem own_shape {W : World} {b k s : Nat} {t : TypeId} {v : Value} {xs : List Value} (h : W.ownsRow b t s v k xs) (hk : 0 < k) : ∃ g cap, v = .slice (some ⟨g, 0, none⟩) k cap ∧ b ≤ g ∧ g < W.heap.size := by
  rcases h.2 with ⟨_, h0⟩ | ⟨g, cap, cur, hv, hb, hh, _⟩
  · omega
  · exact ⟨g, cap, hv, hb, (Array.getElem?_eq_some_iff.1 hh).1⟩
theorem infoRat : (Tryd.prog.info? 27).map (fun i => (i.zero, i.size, i.bytes)) = some (some (.agg #[.bool false, .string ⟨#[]⟩, .string ⟨#[]⟩]), 3, 40) := by kernel_rfl
theorem infoRow : (Tryd.prog.info? 30).map (fun i => (i.zero, i.size, i.bytes)) = some (some (.slice none 0 0), 1, 24) := by kernel_rfl

/-- i rows are done, row i is v. -/
structure PG (W : World) (B g n m i : Nat) (v : Value) (A C : Nat → Nat) (G : Nat → Nat → Rat) : Prop where
  base : B ≤ g
  lt : g < W.heap.size
  top : ∀ j, j < n → W.cell? ⟨g, j, none⟩ = some (if j < i then .slice (some ⟨A j, 0, none⟩) m (C j) else if j = i then v else .slice none 0 0)
  ftop : ∀ o, W.frozen? ⟨g, o, none⟩ = false
  rows : ∀ j, j < i → RowV W (A j) m (G j)
  ge : ∀ j, j < i → B ≤ A j
  ne : ∀ j, j < i → A j ≠ g
  inj : ∀ j k, j < i → k < i → A j = A k → j = k
  own : ∀ j, j < i → OwnQ W B (.slice (some ⟨A j, 0, none⟩) m (C j)) m (G j)
theorem own_chg2 {W W2 : World} {S : Nat → Prop} {b n s : Nat} {t : TypeId} {v : Value} {xs : List Value} (h : W.ownsRow b t s v n xs) (hc : Chg W W2 S) (hs : ∀ k, v.ownBlock = some k → ¬ S k) : W2.ownsRow b t s v n xs := by
  refine ⟨h.1, ?_⟩
  rcases h.2 with hn | ⟨g, cap, cur, hv, hg, hb, rest⟩
  · exact .inl hn
  · refine .inr ⟨g, cap, cur, hv, hg, ?_, rest⟩
    rw [hc.block g (Array.getElem?_eq_some_iff.1 hb).1 (hs g (by rw [hv]; rfl))]
    exact hb
section
variable {w W : World} {B g n m i : Nat} {v : Value} {A C : Nat → Nat} {G : Nat → Nat → Rat} {S : Nat → Prop}
theorem PG.chg (k : PG w B g n m i v A C G) (h : Chg w W S) (hg : ¬ S g) (hA : ∀ j, j < i → ¬ S (A j)) : PG W B g n m i v A C G :=
  ⟨k.base, Nat.lt_of_lt_of_le k.lt h.size, fun j hj => (cell_chg h k.lt hg).trans (k.top j hj), fun o => (frozen_chg h k.lt hg).trans (k.ftop o), fun j hj => (k.rows j hj).chg h (hA j hj), k.ge, k.ne, k.inj, fun j hj => own_chg2 (k.own j hj) h (fun x hx => by
    simp only [Value.ownBlock, Option.some.injEq] at hx
    subst hx
    exact hA j hj)⟩
theorem PG.below (k : PG w B g n m i v A C G) (h : Below w.heap.size w W) : PG W B g n m i v A C G := k.chg (Chg.of_below h (fun _ => False)) (fun h => h) (fun _ _ h => h)
theorem PG.store (k : PG w B g n m i v A C G) (hi : i < n) (v' : Value) : PG (w.setCell ⟨g, i, none⟩ v') B g n m i v' A C G := by
  have hc : Chg w (w.setCell ⟨g, i, none⟩ v') (fun b => b = g) := (Chg.refl w (fun b => b = g)).setCell (p := ⟨g, i, none⟩) (.inl rfl) _
  refine ⟨k.base, by simpa using k.lt, fun j hj => ?_, fun o => by rw [World.frozen?_setCell]; exact k.ftop o, fun j hj => (k.rows j hj).chg hc (k.ne j hj), k.ge, k.ne, k.inj, fun j hj => own_chg2 (k.own j hj) hc (fun x hx => by
    simp only [Value.ownBlock, Option.some.injEq] at hx
    subst hx
    exact k.ne j hj)⟩
  by_cases e : j = i
  · subst e
    rw [cell_setn (by rw [k.top j hj]; rfl), if_neg (by omega), if_pos rfl]
  · rw [World.cell?_setCell_other _ _ _ _ (fun h => e (by injection h with _ h; exact h.symm)), k.top j hj]
    simp only [if_neg e]
theorem PG.next {b c bi : Nat} (k : PG w B g n m i (.slice (some ⟨b, 0, none⟩) m c) A C G) (hr : OwnQ w bi (.slice (some ⟨b, 0, none⟩) m c) m (G i)) (hb : bi ≤ b) (hB : B ≤ bi) (hg : g < bi) (hA : ∀ j, j < i → A j < bi) :
    PG w B g n m (i + 1) (.slice none 0 0) (fun j => if j = i then b else A j) (fun j => if j = i then c else C j) G := by
  refine ⟨k.base, k.lt, fun j hj => ?_, k.ftop, fun j hj => ?_, fun j hj => ?_, fun j hj => ?_, fun x y hx hy h => ?_, fun j hj => ?_⟩
  · rw [k.top j hj]
    by_cases e : j = i
    · subst e; simp
    · by_cases e2 : j < i
      · rw [if_pos e2, if_pos (by omega), if_neg e, if_neg e]
      · rw [if_neg e2, if_neg e, if_neg (by omega)]
        simp
  · by_cases e : j = i
    · subst e; simpa using own_rowV hr
    · simp only [if_neg e]; exact k.rows j (by omega)
  · by_cases e : j = i
    · simp only [if_pos e]; omega
    · simp only [if_neg e]; exact k.ge j (by omega)
  · by_cases e : j = i
    · simp only [if_pos e]; omega
    · simp only [if_neg e]; exact k.ne j (by omega)
  · have hA' := hA
    by_cases e1 : x = i
    · by_cases e2 : y = i
      · omega
      · simp only [if_pos e1, if_neg e2] at h
        have := hA y (by omega)
        omega
    · by_cases e2 : y = i
      · simp only [if_pos e2, if_neg e1] at h
        have := hA x (by omega)
        omega
      · simp only [if_neg e1, if_neg e2] at h
        exact k.inj x y (by omega) (by omega) h
  · by_cases e : j = i
    · subst e; simpa using own_weaken hr hB
    · simp only [if_neg e]; exact k.own j (by omega)
theorem PG.grid (k : PG w B g n m n v A C G) : Grid w B g n m A C G :=
  ⟨k.base, k.lt, fun j hj => by rw [k.top j hj, if_pos hj], k.ftop, k.rows, k.ge, k.ne, k.inj⟩
end
theorem Grid.lower {W : World} {B B' g n m : Nat} {A C : Nat → Nat} {G : Nat → Nat → Rat} (k : Grid W B g n m A C G) (h : B' ≤ B) : Grid W B' g n m A C G :=
  ⟨Nat.le_trans h k.base, k.lt, k.top, k.ftop, k.rows, fun i hi => Nat.le_trans h (k.ge i hi), k.ne, k.inj⟩
theorem PG.start (w : World) (n m : Nat) (A C : Nat → Nat) (G : Nat → Nat → Rat) (B : Nat) (hB : B ≤ w.heap.size) : PG (w.alloc (.cells (madeCells #[.slice none 0 0] n) 30)) B w.heap.size n m 0 (.slice none 0 0) A C G := by
  have h := World.rowIs_made w (.slice none 0 0) n 30
  refine ⟨hB, h.lt, fun j hj => ?_, fun o => h.frozen o, fun j hj => by omega, fun j hj => by omega, fun j hj => by omega, fun j k hj => by omega, fun j hj => by omega⟩
  rw [h.cell hj]
  simp

/-- What a number in memory is worth. -/
abbrev val (e : Raw) : Rat := rval e.1 e.2.1 e.2.2
set_option maxHeartbeats 2000000 in
set_option maxRecDepth 1000000 in
theorem cleanM_o {w0 w : World} {v : Value} {n m N : Nat} {L : Nat → Nat} {E : Nat → Nat → Raw} (hB : Below w0.heap.size w0 w) (hM : Mat w v n L E) (hn : n ≤ 1000) (hm : m ≤ 1000) (h0 : 0 < n) (hm0 : 0 < m) (hL : ∀ i, i < n → L i = m)
    (hF : ∀ i, i < n → ∀ k, k < m → FitS N (E i k).2.1 (E i k).2.2) (hN : N ≤ 1073741824) :
    Calls Tryd.prog 30 #[v] w fun e w' => ∃ g A C, e = .returned (.slice (some ⟨g, 0, none⟩) n n) ∧ Below w0.heap.size w0 w' ∧ w.heap.size ≤ g ∧ Grid w' w.heap.size g n m A C (fun i k => val (E i k)) ∧ ∀ i, i < n → OwnQ w' w.heap.size (.slice (some ⟨A i, 0, none⟩) m (C i)) m (fun k => val (E i k)) := by
  have H0 := Aside0.mk hB
  have HM := Aside0.mk hM
  have HF := Aside0.mk (And.intro hF hN)
  obtain ⟨ga, gc, A, C, rfl, h2, h3⟩ := hM.ex
  obtain ⟨gb, go, rfl, hc⟩ := h2 h0
  have HC := Aside0.mk hc
  have HRA := Aside0.mk h3
  have HL := Aside0.mk hL
  have hmk := run_make_row' (P := Tryd.prog) 24 30 (.slice none 0 0) 24 Tryd.underlying24 infoRow rfl .i64 .i64 n (by omega) (by omega)
  clear hB hM hF hN h2 h3 hc hL
  go_enter Tryd.func30, Tryd.ntmps30
  go_wp2
  clear hmk
  obtain ⟨g, hg⟩ : ∃ g, w.heap.size = g := ⟨_, rfl⟩
  have HPG := PG.start w n m (fun _ => 0) (fun _ => 0) (fun i k => val (E i k)) w.heap.size (Nat.le_refl _)
  have HB1 := below_alloc (Below.refl w.heap.size w) (.cells (madeCells #[.slice none 0 0] n) 30)
  rw [hg] at HPG
  rw [hg]
  replace HPG := Aside0.mk HPG
  replace HB1 := Aside0.mk HB1
  have HGG := Aside0.mk hg
  clear hg
  go_loopw [13] (fun v13 wr => ∃ (i : Nat) (A C : Nat → Nat), i ≤ n ∧ v13 = .int .i64 i ∧ Aside0 (PG wr g g n m i (.slice none 0 0) A C (fun i k => val (E i k))) ∧ Aside0 (∀ j, j < i → A j < wr.heap.size) ∧ Aside0 (Below w.heap.size w wr)) (fun v13 _ => n - (intOf v13).toNat)
  case atStart => exact ⟨0, _, _, by omega, rfl, HPG, ⟨fun j hj => by omega⟩, HB1⟩
  case round =>
    clear HPG HB1
    obtain ⟨i, A1, C1, hi, rfl, HPG, HAL, HB1⟩ := hrel
    by_cases hin : i < n
    · have t1 := cell_below HB1.out (HC.out i hin)
      obtain ⟨rb, ro, hA, hrow⟩ := (HRA.out i hin).ex (by rw [HL.out i hin]; exact hm0)
      rw [HL.out i hin] at hrow
      rw [HL.out i hin, hA] at t1
      have HROW := Aside0.mk hrow
      clear hA hrow
      go_wp2
      clear t1
      obtain ⟨bi, hbi⟩ : ∃ b, wr.heap.size = b := ⟨_, rfl⟩
      have HBI : Aside0 (g < bi ∧ ∀ j, j < i → A1 j < bi) := ⟨hbi ▸ ⟨HPG.out.lt, HAL.out⟩⟩
      have HBL : Aside0 (bi ≤ wr.heap.size) := ⟨Nat.le_of_eq hbi.symm⟩
      clear hbi HAL
      go_loopw [20] (fun v20 wr => ∃ (k : Nat) (v : Value), k ≤ m ∧ v20 = .int .i64 k ∧ Aside0 (PG wr g g n m i v A1 C1 (fun i k => val (E i k))) ∧ Aside0 (OwnQ wr bi v k (fun k => val (E i k))) ∧ Aside0 (bi ≤ wr.heap.size) ∧ Aside0 (Below w.heap.size w wr)) (fun v20 _ => m - (intOf v20).toNat)
      case atStart => exact ⟨0, _, by omega, rfl, HPG, ⟨own_nil _ _ _ _⟩, HBL, HB1⟩
      case round =>
        clear HPG HB1 HBL
        obtain ⟨k, v, hk, rfl, HPG, HO, HBL, HB1⟩ := hrel
        by_cases hkm : k < m
        · have E1 := Aside0.mk ((HROW.out.el k hkm).below HB1.out)
          have FE : Aside0 (FitS N (E i k).2.1 (E i k).2.2) := ⟨HF.out.1 i hin k hkm⟩
          obtain ⟨q, hq⟩ : ∃ q, val (E i k) = q := ⟨_, rfl⟩
          have HQ := Aside0.mk hq
          obtain ⟨⟨x, s, t⟩, he⟩ : ∃ e, E i k = e := ⟨_, rfl⟩
          rw [he] at E1 FE hq
          clear he
          have e0 := E1.out.c0
          have e1 := E1.out.c1
          have e2 := E1.out.c2
          simp only at e0 e1 e2
          go_upto_region 8 with (fail)
          clear e0 e1 e2
          obtain ⟨p7, hp7⟩ : ∃ x, wr.heap.size = x := ⟨_, rfl⟩
          have HNE : Aside0 (∀ b, v.ownBlock = some b → b < p7) := ⟨fun b hb => hp7 ▸ own_lt HO.out b hb⟩
          obtain ⟨w5, hw5, HX, hV⟩ := box1 wr (.bool x) (.string s) (.string t) 27
          rw [hw5]
          clear hw5
          have HBL0 := HBL; have HB0 := HB1; replace HPG := Aside0.mk (HPG.out.below hV); replace HO := Aside0.mk (pw_own_below HO.out hV); replace HBL := Aside0.mk (Nat.le_trans HBL.out hV.size); replace HB1 := Aside0.mk (below_step HB1.out hV)
          rw [hp7] at HX ⊢
          have HPB : Aside0 (bi ≤ p7 ∧ w.heap.size ≤ p7) := ⟨hp7 ▸ ⟨HBL0.out, HB0.out.size⟩⟩
          clear hp7 hV HBL0 HB0 E1
          obtain ⟨z, hz⟩ : ∃ z, decide (valid x s t) = z := ⟨_, rfl⟩
          have HVC : Aside0 (∀ U V : World, Below U.heap.size U V → Calls Tryd.prog 48 #[.agg #[.bool x, .string s, .string t]] V fun e w' => e = .returned (.bool z) ∧ Below U.heap.size U w') := ⟨fun U V h => hz ▸ Valid_c (b := x) h FE.out HF.out.2⟩
          have HZ := Aside0.mk hz
          have HQQ : Aside0 (rval x s t = q) := ⟨hq⟩
          clear hz hq
          have kx := (HX.out); have kx0 := kx.c0; have kx1 := kx.c1; have kx2 := kx.c2; have fx0 := kx.f0; have fx1 := kx.f1; have fx2 := kx.f2; clear kx
          go_upto_if 26 with (go_at_call 48; (with_reducible refine (HVC.out _ _ (Below.refl _ _)).mono ?_); rintro e w1 ⟨rfl, hV⟩; have HBL0 := HBL; have HB0 := HB1; replace HPG := Aside0.mk (HPG.out.below hV); replace HO := Aside0.mk (pw_own_below HO.out hV); replace HBL := Aside0.mk (Nat.le_trans HBL.out hV.size); replace HB1 := Aside0.mk (below_step HB1.out hV); replace HX := Aside0.mk (HX.out.below hV); clear hV HBL0 HB0 kx0 kx1 kx2 fx0 fx1 fx2)
          go_cut [7] (fun v7 wc => v7 = .pointer (some ⟨p7, 0, none⟩) ∧ Aside0 (PG wc g g n m i v A1 C1 (fun i k => val (E i k))) ∧ Aside0 (OwnQ wc bi v k (fun k => val (E i k))) ∧ Aside0 (bi ≤ wc.heap.size) ∧ Aside0 (Below w.heap.size w wc) ∧ Aside0 (Bx wc p7 (.bool (ngv q)) (.string (enc q.num.natAbs)) (.string (encD q.den))))
          case first =>
            cases z with
            | true =>
              have hrv := rv_rval (of_decide_eq_true HZ.out)
              rw [HQQ.out] at hrv
              simp only [rv, Value.agg.injEq, Array.mk.injEq, List.cons.injEq, Value.bool.injEq, Value.string.injEq, and_true] at hrv
              obtain ⟨e1, e2, e3⟩ := hrv
              have HE3 := Aside0.mk (And.intro e1 (And.intro e2 e3))
              clear e1 e2 e3
              go_wp2
              go_meet
              refine ⟨rfl, HPG, HO, HBL, HB1, ⟨?_⟩⟩
              rw [HE3.out.1, HE3.out.2.1, HE3.out.2.2]
              exact HX.out
            | false =>
              have hq0 : q = 0 := by
                rw [← HQQ.out]; unfold rval; rw [if_neg (of_decide_eq_false HZ.out)]
              have hrv := rv_zero
              rw [← hq0] at hrv
              simp only [rv, Value.agg.injEq, Array.mk.injEq, List.cons.injEq, Value.bool.injEq, Value.string.injEq, and_true] at hrv
              obtain ⟨e1, e2, e3⟩ := hrv
              have HE3 := Aside0.mk (And.intro e1 (And.intro e2 e3))
              clear e1 e2 e3 hq0
              have kx := (HX.out); have kx0 := kx.c0; have kx1 := kx.c1; have kx2 := kx.c2; have fx0 := kx.f0; have fx1 := kx.f1; have fx2 := kx.f2; clear kx
              go_wp2
              clear kx0 kx1 kx2 fx0 fx1 fx2
              obtain ⟨w4, hw4, hbx, hc⟩ := box_write HX.out (.bool false) (.string ⟨#[]⟩) (.string ⟨#[]⟩)
              go_meet
              rw [hw4]
              refine ⟨rfl, ⟨HPG.out.chg hc (fun e => by have := HBI.out.1; have := HPB.out; omega) (fun j hj e => by have := HBI.out.2 j hj; have := HPB.out; omega)⟩, ⟨own_chg2 HO.out hc (fun k hk e => by have := HNE.out k hk; omega)⟩, ⟨Nat.le_trans HBL.out hc.size⟩, ⟨hc.out HB1.out (fun k hk => by rw [hk]; exact HPB.out.2)⟩, ⟨?_⟩⟩
              rw [HE3.out.1, HE3.out.2.1, HE3.out.2.2]
              exact hbx
          case rest =>
            clear HPG HO HBL HB1 HX
            obtain ⟨rfl, HPG, HO, HBL, HB1, HX⟩ := hcut
            go_upto_region 10 with (fail)
            have t1 := HPG.out.top i hin
            simp only [Nat.lt_irrefl, if_false, if_true] at t1
            have t2 := HPG.out.ftop i
            have HT := Aside0.mk (And.intro t1 t2)
            have eg : ∀ o, (wc.alloc o).cell? ⟨g, i, none⟩ = some v := fun o => cell_below (below_alloc (Below.refl _ _) o) t1
            have eg2 : ¬ wc.heap.size = g := fun e => by have := HPG.out.lt; omega
            have eg3 : ¬ g = wc.heap.size := fun e => by have := HPG.out.lt; omega
            have kx := (HX.out); have kx0 := kx.c0; have kx1 := kx.c1; have kx2 := kx.c2; have fx0 := kx.f0; have fx1 := kx.f1; have fx2 := kx.f2; clear kx
            have h1 : ∀ u ∈ [Value.bool (ngv q), Value.string (enc q.num.natAbs), Value.string (encD q.den)], u.oneCell' = true := by
              intro u hu
              simp only [List.mem_cons, List.not_mem_nil, or_false] at hu
              rcases hu with rfl | rfl | rfl <;> rfl
            have H1 := Aside0.mk h1
            have HO' : Aside0 (OwnQ wc.drew bi v k (fun k => val (E i k))) := ⟨pw_own_below HO.out (below_drew1 (Below.refl _ _))⟩
            have HL' : Aside0 (bi ≤ wc.drew.heap.size ∧ (k + 1) * 40 ≤ 140737488355328) := ⟨HBL.out, by omega⟩
            clear h1
            refine wp_region_held_drew (S := fun _ => True) (by kernel_rfl) trivial (fun hHeld => ?_)
            (refine wpAnyH_take (i := 0) (v := ?_) rfl (by kernel_rfl) (by kernel_rfl) (by kernel_rfl) (fun _ _ _ h => h) (Or.inl ⟨by rfl, ?_⟩) (by assumption) ?_); rotate_left; (focus (intro w' hSw; (try dsimp only at hSw); go_simp; (try with_reducible rfl))); (try simp only [Act.put, List.setIfInBounds_toArray, List.set_cons_zero, List.set_cons_succ])
            (refine wpAnyH_take (i := 1) (v := ?_) rfl (by kernel_rfl) (by kernel_rfl) (by kernel_rfl) (fun _ _ _ h => h) (Or.inl ⟨by rfl, ?_⟩) (by assumption) ?_); rotate_left; (focus (intro w' hSw; (try dsimp only at hSw); go_simp; (try with_reducible rfl))); (try simp only [Act.put, List.setIfInBounds_toArray, List.set_cons_zero, List.set_cons_succ])
            (refine wpAnyH_take (i := 2) (v := ?_) rfl (by kernel_rfl) (by kernel_rfl) (by kernel_rfl) (fun _ _ _ h => h) (Or.inl ⟨by rfl, ?_⟩) (by assumption) ?_); rotate_left; (focus (intro w' hSw; (try dsimp only at hSw); go_simp; (try with_reducible rfl))); (try simp only [Act.put, List.setIfInBounds_toArray, List.set_cons_zero, List.set_cons_succ])
            (refine wpAnyH_take (i := 3) (v := ?_) rfl (by kernel_rfl) (by kernel_rfl) (by kernel_rfl) (fun _ _ _ h => h) (Or.inl ⟨by rfl, ?_⟩) (by assumption) ?_); rotate_left; (focus (intro w' hSw; (try dsimp only at hSw); go_simp; (try with_reducible rfl))); (try simp only [Act.put, List.setIfInBounds_toArray, List.set_cons_zero, List.set_cons_succ])
            (refine wpAnyH_take (i := 4) (v := ?_) rfl (by kernel_rfl) (by kernel_rfl) (by kernel_rfl) (fun _ _ _ h => h) (Or.inl ⟨by rfl, ?_⟩) (by assumption) ?_); rotate_left; (focus (intro w' hSw; (try dsimp only at hSw); go_simp; (try with_reducible rfl))); (try simp only [Act.put, List.setIfInBounds_toArray, List.set_cons_zero, List.set_cons_succ])
            (refine wpAnyH_ready (rs := [5, 6]) (by kernel_rfl) (by simp) ?_); (refine AllReadyH.cons rfl (fun K hK => ?_) (AllReadyH.cons rfl (fun K hK => ?_) AllReadyH.nil))
            rotate_left
            focus ((go_simp; (refine hK.out _ _ trivial (fun hHeld => ?_)); (clear hK K); (try simp only [Act.put, List.setIfInBounds_toArray, List.set_cons_zero, List.set_cons_succ])); (refine wpAnyH_ready (rs := [5, 7]) (by kernel_rfl) (by simp) ?_); (refine AllReadyH.cons rfl (fun K hK => ?_) (AllReadyH.cons rfl (fun K hK => ?_) AllReadyH.nil)))
            focus ((go_simp; (refine hK.out _ _ trivial (fun hHeld => ?_)); (clear hK K); (try simp only [Act.put, List.setIfInBounds_toArray, List.set_cons_zero, List.set_cons_succ])); (refine wpAnyH_ready (rs := [7]) (by kernel_rfl) (by simp) ?_); (refine AllReadyH.cons rfl (fun K hK => ?_) AllReadyH.nil); (go_simp; (refine hK.out _ _ trivial (fun hHeld => ?_)); (clear hK K); (try simp only [Act.put, List.setIfInBounds_toArray, List.set_cons_zero, List.set_cons_succ])))
            rotate_left
            focus ((go_simp; (refine hK.out _ _ trivial (fun hHeld => ?_)); (clear hK K); (try simp only [Act.put, List.setIfInBounds_toArray, List.set_cons_zero, List.set_cons_succ])); (refine wpAnyH_ready (rs := [5]) (by kernel_rfl) (by simp) ?_); (refine AllReadyH.cons rfl (fun K hK => ?_) AllReadyH.nil); (go_simp; (refine hK.out _ _ trivial (fun hHeld => ?_)); (clear hK K); (try simp only [Act.put, List.setIfInBounds_toArray, List.set_cons_zero, List.set_cons_succ])))
            rotate_left
            focus ((go_simp; (refine hK.out _ _ trivial (fun hHeld => ?_)); (clear hK K); (try simp only [Act.put, List.setIfInBounds_toArray, List.set_cons_zero, List.set_cons_succ])); (refine wpAnyH_ready (rs := [6]) (by kernel_rfl) (by simp) ?_); (refine AllReadyH.cons rfl (fun K hK => ?_) AllReadyH.nil); (go_simp; (refine hK.out _ _ trivial (fun hHeld => ?_)); (clear hK K); (try simp only [Act.put, List.setIfInBounds_toArray, List.set_cons_zero, List.set_cons_succ])); (refine wpAnyH_ready (rs := [7]) (by kernel_rfl) (by simp) ?_); (refine AllReadyH.cons rfl (fun K hK => ?_) AllReadyH.nil); (go_simp; (refine hK.out _ _ trivial (fun hHeld => ?_)); (clear hK K); (try simp only [Act.put, List.setIfInBounds_toArray, List.set_cons_zero, List.set_cons_succ])))
            all_goals
              (refine wpAnyH_ready (rs := [8]) (by kernel_rfl) (by simp) ?_); (refine AllReadyH.cons rfl (fun K hK => ?_) AllReadyH.nil)
              (refine step_append_cells (W := wc.drew) (w0 := wc.drew) bi (by rfl) _ _ 30 27 _ 3 40 (by rfl) Tryd.underlying30 infoRat (by rfl) (by decide) (by decide) v k (rcells (fun k => val (E i k)) k) [.bool (ngv q), .string (enc q.num.natAbs), .string (encD q.den)] (by rfl) (by rfl) (by rfl) H1.out HO'.out (Below.refl _ _) HL'.out.1 HL'.out.2 ?_; intro v1 w1 ho1 hb1 hg1 hat1; obtain ⟨b1, c1, rfl, hbb1, hbb2⟩ := own_shape ho1 (Nat.succ_pos _); have t1' := (hb1.cell (p := ⟨g, i, none⟩) HBI.out.1).trans HT.out.1; have t2' := (hb1.frozen (p := ⟨g, i, none⟩) HBI.out.1).trans HT.out.2)
              (refine hK.out _ _ trivial (fun hHeld => ?_)); (clear hK K); (try simp only [Act.put, List.setIfInBounds_toArray, List.set_cons_zero, List.set_cons_succ])
              (refine wpAnyH_take (i := 9) (v := ?_) rfl (by kernel_rfl) (by kernel_rfl) (by kernel_rfl) (fun _ _ _ h => h) (Or.inl ⟨by rfl, ?_⟩) (by assumption) ?_); rotate_left; (focus (intro w' hSw; (try dsimp only at hSw); go_simp; (try with_reducible rfl))); (try simp only [Act.put, List.setIfInBounds_toArray, List.set_cons_zero, List.set_cons_succ])
              (refine wpAnyH_ready (rs := [10]) (by kernel_rfl) (by simp) ?_); (refine AllReadyH.cons rfl (fun K hK => ?_) AllReadyH.nil)
              go_simp
              (refine hK.out _ _ trivial (fun hHeld => ?_)); (clear hK K); (try simp only [Act.put, List.setIfInBounds_toArray, List.set_cons_zero, List.set_cons_succ])
              refine wpAnyH_done (by kernel_rfl) ?_ _
            all_goals
              have hcb := chg_of_belowB hb1
              have hpg := ((HPG.out.below (below_drew1 (Below.refl _ _))).chg hcb (fun h => by have := HBI.out.1; omega) (fun j hj h => by have := HBI.out.2 j hj; omega)).store hin (.slice (some ⟨b1, 0, none⟩) (k + 1) c1)
              have hcs : Chg w1 (w1.setCell ⟨g, i, none⟩ (.slice (some ⟨b1, 0, none⟩) (k + 1) c1)) (fun b => b = g) := (Chg.refl w1 (fun b => b = g)).setCell (p := ⟨g, i, none⟩) (.inl rfl) _
              have ho2 : OwnQ (w1.setCell ⟨g, i, none⟩ (.slice (some ⟨b1, 0, none⟩) (k + 1) c1)) bi (.slice (some ⟨b1, 0, none⟩) (k + 1) c1) (k + 1) (fun k => val (E i k)) := by
                rw [← HQ.out] at ho1
                exact own_chg ho1 hcs (fun k hk e => by have := HBI.out.1; omega)
              have hb2 := hcs.out (hcb.out (below_step HB1.out (below_drew1 (Below.refl _ _))) (fun k hk => by have := HBI.out.1; have := HGG.out; omega)) (fun k hk => by have := HGG.out; omega)
              have hl2 : bi ≤ (w1.setCell ⟨g, i, none⟩ (.slice (some ⟨b1, 0, none⟩) (k + 1) c1)).heap.size := Nat.le_trans HL'.out.1 (Nat.le_trans hcb.size hcs.size)
              have HF1 := Aside0.mk (And.intro hpg (And.intro ho2 (And.intro hl2 hb2)))
              clear hcb hpg hcs ho2 hb2 hl2 t1' t2' t1 t2 eg eg2 eg3 hb1 hg1 hat1 ho1 kx0 kx1 kx2 fx0 fx1 fx2 hbb1 hbb2
              obtain ⟨w9, hw9⟩ : ∃ w9, (w1.setCell ⟨g, i, none⟩ (.slice (some ⟨b1, 0, none⟩) (k + 1) c1)) = w9 := ⟨_, rfl⟩
              rw [hw9] at HF1 ⊢
              clear hw9
              go_wp2
              refine ⟨⟨k + 1, _, hkm, by go_num, ⟨HF1.out.1⟩, ⟨HF1.out.2.1⟩, ⟨HF1.out.2.2.1⟩, ⟨HF1.out.2.2.2⟩⟩, ?_⟩
              simp [intOf]; omega
        · obtain rfl : m = k := by omega
          obtain ⟨b, c, rfl, hb1, hb2⟩ := own_shape HO.out hm0
          have HAL2 : Aside0 (∀ j, j < i + 1 → (fun j => if j = i then b else A1 j) j < wr.heap.size) := ⟨fun j hj => by
            by_cases e : j = i
            · simp only [if_pos e]; exact hb2
            · simp only [if_neg e]; have := HBI.out.2 j (by omega); have := HBL.out; omega⟩
          have HPG2 := Aside0.mk (HPG.out.next HO.out hb1 (by have := HBI.out.1; omega) HBI.out.1 HBI.out.2)
          clear HO HPG hb1 hb2
          go_wp2
          refine ⟨⟨i + 1, _, _, hin, by go_num, HPG2, HAL2, HB1⟩, ?_⟩
          simp [intOf]; omega
    · obtain rfl : n = i := by omega
      go_wp2
      go_ret
      exact ⟨_, _, _, rfl, below_step H0.out HB1.out, Nat.le_of_eq HGG.out, HPG.out.grid.lower (Nat.le_of_eq HGG.out), fun i hi => own_weaken (HPG.out.own i hi) (Nat.le_of_eq HGG.out)⟩
theorem cleanM_c {w0 w : World} {v : Value} {n m N : Nat} {L : Nat → Nat} {E : Nat → Nat → Raw} (hB : Below w0.heap.size w0 w) (hM : Mat w v n L E) (hn : n ≤ 1000) (hm : m ≤ 1000) (h0 : 0 < n) (hm0 : 0 < m) (hL : ∀ i, i < n → L i = m)
    (hF : ∀ i, i < n → ∀ k, k < m → FitS N (E i k).2.1 (E i k).2.2) (hN : N ≤ 1073741824) :
    Calls Tryd.prog 30 #[v] w fun e w' => ∃ g A C, e = .returned (.slice (some ⟨g, 0, none⟩) n n) ∧ Below w0.heap.size w0 w' ∧ w.heap.size ≤ g ∧ Grid w' w.heap.size g n m A C (fun i k => val (E i k)) :=
  (cleanM_o hB hM hn hm h0 hm0 hL hF hN).mono fun e w' ⟨g, A, C, h1, h2, h3, h4, _⟩ => ⟨g, A, C, h1, h2, h3, h4⟩
end Go.Proofs.YtiamgjepcagohaaDoor.P
end
section
/- Package linear: Reduce, Rank, Determinant. -/
namespace Go.Proofs.YtiamgjepcagohaaDoor.P
open Go Go.RowKit Go.Proofs.YtiamgjepcagohaaDoorW.PrintWords Go.Proofs.YtiamgjepcagohaaDoorW.PrintLast Go.Proofs.YtiamgjepcagohaaDoorW.PrintMore Go.Proofs.YtiamgjepcagohaaDoor.Ari

/-- The numbers of a matrix. -/
abbrev vals (E : Nat → Nat → Raw) : Gr := fun i k => val (E i k)
/-- What Reduce is told: a matrix of n rows and m columns, and room. -/
structure Okay (n m N R cols : Nat) (E : Nat → Nat → Raw) (OUT : St) : Prop where
  fit : ∀ i, i < n → ∀ k, k < m → FitS N (E i k).2.1 (E i k).2.2
  inv : RInv n m cols 0 R N ⟨vals E, [], 1⟩ OUT
theorem Okay.small {n m N R cols : Nat} {E : Nat → Nat → Raw} {OUT : St} (h : Okay n m N R cols E OUT) : N ≤ 1073741824 := h.inv.small
theorem Okay.mk_ {n m N R cols : Nat} {E : Nat → Nat → Raw} {OUT : St} (hf : ∀ i, i < n → ∀ k, k < m → FitS N (E i k).2.1 (E i k).2.2) (h1 : 1 ≤ N) (hc : cols ≤ m)
    (ho : ech n cols 0 ⟨vals E, [], 1⟩ = OUT) (hr : OUT.piv.length = R) (hN : N * 8 ^ R ≤ 1073741824) : Okay n m N R cols E OUT :=
  ⟨hf, ⟨Nat.zero_le _, hc, ho, fun i hi k hk => (hf i hi k hk).val, Fit.mono Fit.one h1, h1, by simpa using hN, Nat.zero_le _, hr⟩⟩

set_option maxHeartbeats 2000000 in
set_option maxRecDepth 1000000 in
theorem Reduce_ok {w0 w : World} {v : Value} {n m N R : Nat} {L : Nat → Nat} {E : Nat → Nat → Raw} {OUT : St} (hB : Below w0.heap.size w0 w) (hM : Mat w v n L E) (hk : chk n L = 0) (hm : L 0 = m) (hO : Okay n m N R m E OUT) :
    Calls Tryd.prog 11 #[v] w fun e w' => ∃ g A C b pv, e = .returned (.tuple #[.slice (some ⟨g, 0, none⟩) n n, pv, .int .i64 0]) ∧ Below w0.heap.size w0 w' ∧ w.heap.size ≤ g ∧ w.heap.size ≤ b ∧ Grid w' w.heap.size g n m A C OUT.G ∧ OwnP w' b pv OUT.piv := by
  obtain ⟨h0, h16, hm0, hm16, hall⟩ := chk_ok hk
  have H0 := Aside0.mk hB
  have HC := Aside0.mk (hk ▸ check_c (Below.refl _ _) hM (by omega))
  have HM := Aside0.mk hM
  obtain ⟨ga, gc, A, C, rfl, h2, h3⟩ := hM.ex
  obtain ⟨gb, go, rfl, hc⟩ := h2 h0
  have t0 := hc 0 h0
  rw [Nat.add_zero, hm] at t0
  have HO := Aside0.mk hO
  have T0 := Aside0.mk t0
  have HL : Aside0 (∀ i, i < n → L i = m) := ⟨fun i hi => (hall i hi).trans hm⟩
  rw [hm] at hm0 hm16
  have HS := Aside0.mk (And.intro h0 (And.intro h16 (And.intro hm0 hm16)))
  clear hB hM h2 h3 hc hO hall hk hm h16 hm0 hm16
  go_enter Tryd.func11, Tryd.ntmps11
  go_wp2_with (first
    | (go_at_call 29; (with_reducible refine HC.out.mono ?_); rintro e w1 ⟨rfl, hV⟩; replace t0 := cell_below hV t0; replace HM := Aside0.mk (HM.out.below hV); have HB := Aside0.mk hV; clear hV)
    | (go_at_call 30; (with_reducible refine (cleanM_c (w0 := w) HB.out HM.out (by have := HS.out; omega) (by have := HS.out; omega) HS.out.1 HS.out.2.2.1 HL.out HO.out.fit HO.out.small).mono ?_); rintro e w2 ⟨g, A2, C2, rfl, hV, hg, hG⟩; have HG := Aside0.mk (hG.lower HB.out.size); have HV := Aside0.mk hV; have HGG := Aside0.mk (Nat.le_trans HB.out.size hg); replace t0 := cell_below hV T0.out; clear hV hG hg)
    | (go_at_call 31; (with_reducible refine (reduce_c (w0 := w) HV.out HG.out HO.out.inv (by have := HS.out; omega) (by have := HS.out; omega)).mono ?_); rintro e w3 ⟨pv, A3, C3, rfl, hV, hG, hO⟩; have HG3 := Aside0.mk hG; have HV3 := Aside0.mk hV; have HO3 := Aside0.mk hO; clear hV hG hO))
  go_ret3
  exact ⟨g, A3, C3, _, pv, rfl, below_alloc (below_step H0.out HV3.out) _, HGG.out, HV.out.size, HG3.out.below (below_alloc (Below.refl _ _) _), pw_own_below HO3.out (below_alloc (Below.refl _ _) _)⟩

set_option maxHeartbeats 2000000 in
set_option maxRecDepth 1000000 in
theorem Determinant_ok {w0 w : World} {v : Value} {n N R : Nat} {L : Nat → Nat} {E : Nat → Nat → Raw} {OUT : St} (hB : Below w0.heap.size w0 w) (hM : Mat w v n L E) (hk : chk n L = 0) (hm : L 0 = n) (hO : Okay n n N R n E OUT) :
    Calls Tryd.prog 15 #[v] w fun e w' => e = .returned (.tuple #[rv (if OUT.piv.length < n then 0 else OUT.pr), .int .i64 0]) ∧ Below w0.heap.size w0 w' := by
  obtain ⟨h0, h16, hm0, hm16, hall⟩ := chk_ok hk
  have H0 := Aside0.mk hB
  obtain ⟨W, hW, HR, hbW⟩ := boxR w 27
  have HW : Aside0 (Below w0.heap.size w0 W) := ⟨below_step hB hbW⟩
  have HE := Aside0.mk hW
  have hsq : sqr n L = 0 := by unfold sqr; rw [if_pos hk, hm, if_pos rfl]
  have HC := Aside0.mk (hsq ▸ square_c (Below.refl _ _) (hM.below hbW) (by omega))
  have HM := Aside0.mk (hM.below hbW)
  have HO := Aside0.mk hO
  have HL : Aside0 (∀ i, i < n → L i = n) := ⟨fun i hi => (hall i hi).trans hm⟩
  obtain ⟨ga, gc, A, C, rfl, h2, h3⟩ := hM.ex
  have HS := Aside0.mk (And.intro h0 h16)
  have HZ := Aside0.mk rv_zero
  obtain ⟨z, hz⟩ : ∃ z, (if OUT.piv.length < n then 0 else OUT.pr) = z := ⟨_, rfl⟩
  have HZZ := Aside0.mk hz
  rw [hz]
  clear hB hM hW hbW hO hall hk hm h0 h16 hm0 hm16 h2 h3 hsq hz
  by_cases hl : OUT.piv.length < n
  · have HLL := Aside0.mk hl
    go_enter Tryd.func15, Tryd.ntmps15
    go_upto_region 1 with (fail)
    rw [HE.out]
    go_upto_region 5 with (first | (go_at_call 34; (with_reducible refine HC.out.mono ?_); rintro e w1 ⟨rfl, hV⟩; replace HM := Aside0.mk (HM.out.below hV); replace HW := Aside0.mk (below_step HW.out hV); replace HR := Aside0.mk (HR.out.below hV); clear hV) | (go_at_call 30; (with_reducible refine (cleanM_c (Below.refl _ _) HM.out (by have := HS.out; omega) (by have := HS.out; omega) HS.out.1 HS.out.1 HL.out HO.out.fit HO.out.small).mono ?_); rintro e w2 ⟨g, A2, C2, rfl, hV, hg, hG⟩; have HG := Aside0.mk hG; have HV := Aside0.mk hV; clear hV hG hg) | (go_at_call 31; (with_reducible refine (reduce_c HV.out HG.out HO.out.inv (by have := HS.out; omega) (by have := HS.out; omega)).mono ?_); rintro e w3 ⟨pv, A3, C3, rfl, hV, hG, hO⟩; have HO3 := Aside0.mk hO; obtain ⟨pa, pc, rfl⟩ := own_slice HO3.out; replace HW := Aside0.mk (below_step HW.out hV); replace HR := Aside0.mk (HR.out.below hV); clear hV hG hO))
    obtain ⟨p6, hp6⟩ : ∃ x, w3.heap.size = x := ⟨_, rfl⟩; (obtain ⟨w4, hw4, HP, hV⟩ := box1 w3 (.bool (ngv OUT.pr)) (.string (enc OUT.pr.num.natAbs)) (.string (encD OUT.pr.den)) 27); (rw [hw4]); (replace HW := Aside0.mk (below_step HW.out hV)); (replace HR := Aside0.mk (HR.out.below hV)); (rw [hp6] at HP ⊢); (clear hw4 hp6 hV); (have kx := (HR.out); have kr0 := kx.c0; have kr1 := kx.c1; have kr2 := kx.c2; have fr0 := kx.f0; have fr1 := kx.f1; have fr2 := kx.f2; clear kx); (have kx := (HP.out); have kp0 := kx.c0; have kp1 := kx.c1; have kp2 := kx.c2; have fp0 := kx.f0; have fp1 := kx.f1; have fp2 := kx.f2; clear kx); go_wp2; (clear kr0 kr1 kr2 fr0 fr1 fr2 kp0 kp1 kp2 fp0 fp1 fp2); (refine bodyPost_ret (results_bx_tmp rfl rfl (HR.out.set _ _ _)) rfl ?_)
    have hz0 := HZZ.out
    rw [if_pos HLL.out] at hz0
    refine ⟨?_, below_set3 HW.out (by have := H0.out.size; omega)⟩
    rw [← hz0, HZ.out]
    rfl
  · have HLL := Aside0.mk hl
    go_enter Tryd.func15, Tryd.ntmps15
    go_upto_region 1 with (fail)
    rw [HE.out]
    go_upto_region 5 with (first | (go_at_call 34; (with_reducible refine HC.out.mono ?_); rintro e w1 ⟨rfl, hV⟩; replace HM := Aside0.mk (HM.out.below hV); replace HW := Aside0.mk (below_step HW.out hV); replace HR := Aside0.mk (HR.out.below hV); clear hV) | (go_at_call 30; (with_reducible refine (cleanM_c (Below.refl _ _) HM.out (by have := HS.out; omega) (by have := HS.out; omega) HS.out.1 HS.out.1 HL.out HO.out.fit HO.out.small).mono ?_); rintro e w2 ⟨g, A2, C2, rfl, hV, hg, hG⟩; have HG := Aside0.mk hG; have HV := Aside0.mk hV; clear hV hG hg) | (go_at_call 31; (with_reducible refine (reduce_c HV.out HG.out HO.out.inv (by have := HS.out; omega) (by have := HS.out; omega)).mono ?_); rintro e w3 ⟨pv, A3, C3, rfl, hV, hG, hO⟩; have HO3 := Aside0.mk hO; obtain ⟨pa, pc, rfl⟩ := own_slice HO3.out; replace HW := Aside0.mk (below_step HW.out hV); replace HR := Aside0.mk (HR.out.below hV); clear hV hG hO))
    obtain ⟨p6, hp6⟩ : ∃ x, w3.heap.size = x := ⟨_, rfl⟩; (obtain ⟨w4, hw4, HP, hV⟩ := box1 w3 (.bool (ngv OUT.pr)) (.string (enc OUT.pr.num.natAbs)) (.string (encD OUT.pr.den)) 27); (rw [hw4]); (replace HW := Aside0.mk (below_step HW.out hV)); (replace HR := Aside0.mk (HR.out.below hV)); (rw [hp6] at HP ⊢); (clear hw4 hp6 hV); (have kx := (HR.out); have kr0 := kx.c0; have kr1 := kx.c1; have kr2 := kx.c2; have fr0 := kx.f0; have fr1 := kx.f1; have fr2 := kx.f2; clear kx); (have kx := (HP.out); have kp0 := kx.c0; have kp1 := kx.c1; have kp2 := kx.c2; have fp0 := kx.f0; have fp1 := kx.f1; have fp2 := kx.f2; clear kx); go_wp2; (clear kr0 kr1 kr2 fr0 fr1 fr2 kp0 kp1 kp2 fp0 fp1 fp2); (refine bodyPost_ret (results_bx_tmp rfl rfl (HR.out.set _ _ _)) rfl ?_)
    have hz0 := HZZ.out
    rw [if_neg HLL.out] at hz0
    refine ⟨?_, below_set3 HW.out (by have := H0.out.size; omega)⟩
    rw [← hz0]
    rfl
end Go.Proofs.YtiamgjepcagohaaDoor.P
end
section
/- Package linear: Kernel; slices.Contains. -/
namespace Go.Proofs.YtiamgjepcagohaaDoor.P
open Go Go.RowKit Go.Proofs.YtiamgjepcagohaaDoorW.PrintWords Go.Proofs.YtiamgjepcagohaaDoorW.PrintLast Go.Proofs.YtiamgjepcagohaaDoorW.PrintMore Go.Proofs.YtiamgjepcagohaaDoor.Ari

theorem RInv.final {n m cols R : Nat} {OUT : St} : ∀ (d c K : Nat) (S : St), cols - c = d → RInv n m cols c R K S OUT → ∃ K', K' ≤ 1073741824 ∧ OUT.piv.length ≤ n ∧ (∀ i, i < n → ∀ k, k < m → Fit K' (OUT.G i k)) ∧ Fit K' OUT.pr
  | 0, c, K, S, hd, h => by
    have e := h.end_ (.inl (by omega))
    subst e
    exact ⟨K, h.small, h.ple, h.ent, h.pr⟩
  | d + 1, c, K, S, hd, h => by
    by_cases hl : S.piv.length < n
    · cases hp : pvf S.G c (n - S.piv.length) S.piv.length with
      | none => exact RInv.final d (c + 1) K S (by omega) (h.skip (by omega) hl hp)
      | some a => exact RInv.final d (c + 1) _ _ (by omega) (h.step (by omega) hl hp).1
    · have e := h.end_ (.inr hl)
      subst e
      exact ⟨K, h.small, h.ple, h.ent, h.pr⟩
theorem ech_piv_lt {n : Nat} : ∀ (f c : Nat) (S : St), (∀ x, x ∈ S.piv → x < c) → ∀ x, x ∈ (ech n f c S).piv → x < c + f
  | 0, c, S, h, x, hx => by have := h x hx; omega
  | f + 1, c, S, h, x, hx => by
    rw [ech] at hx
    split at hx
    · have := ech_piv_lt f (c + 1) _ (fun y hy => ?_) x hx
      · omega
      · unfold estep at hy
        split at hy
        · have := h y hy; omega
        · simp only [stepAt, List.mem_append, List.mem_singleton] at hy
          rcases hy with hy | hy
          · have := h y hy; omega
          · omega
    · have := h x hx; omega
theorem RInv.piv_lt {n m cols R K : Nat} {OUT : St} {G : Gr} (h : RInv n m cols 0 R K ⟨G, [], 1⟩ OUT) : ∀ x, x ∈ OUT.piv → x < m := by
  intro x hx
  have := ech_piv_lt (n := n) (cols - 0) 0 ⟨G, [], 1⟩ (fun y hy => by cases hy) x (by rw [h.run]; exact hx)
  have := h.cm
  omega

/-! slices.Index, slices.Contains at int -/
theorem nums_get (l : List Nat) (i : Nat) (h : i < l.length) : (nums .i64 (ints l))[i]? = some (.int .i64 (l.getD i 0)) := by
  simp [nums, ints, h]
theorem OwnP.cell {W : World} {b g c : Nat} {l : List Nat} (h : OwnP W b (.slice (some ⟨g, 0, none⟩) l.length c) l) {i : Nat} (hi : i < l.length) : W.cell? ⟨g, i, none⟩ = some (.int .i64 (l.getD i 0)) := by
  rw [h.cellAt i (by omega)]
  exact nums_get l i hi
/-- Where x stands in l, from i on. -/
def idx (l : List Nat) (x : Nat) : Nat → Nat → Option Nat
  | 0, _ => none
  | f + 1, i => if x = l.getD i 0 then some i else idx l x f (i + 1)
theorem idx_mem {l : List Nat} {x : Nat} : ∀ (f i : Nat), i + f = l.length → ((idx l x f i).isSome = true ↔ x ∈ l.drop i)
  | 0, i, h => by rw [idx, List.drop_of_length_le (by omega)]; simp
  | f + 1, i, h => by
    have hi : i < l.length := by omega
    rw [idx, List.drop_eq_getElem_cons hi, List.mem_cons]
    have hg : l.getD i 0 = l[i] := by simp [List.getD_eq_getElem?_getD, hi]
    rw [hg]
    by_cases e : x = l[i]
    · rw [if_pos e]; simp [e]
    · rw [if_neg e, idx_mem f (i + 1) (by omega)]; simp [e]
set_option maxHeartbeats 2000000 in
set_option maxRecDepth 1000000 in
theorem Index_c {w0 w : World} {b x : Nat} {v : Value} {l : List Nat} (hB : Below w0.heap.size w0 w) (hO : OwnP w b v l) (hl : l.length ≤ 1000) :
    Calls Tryd.prog 59 #[v, .int .i64 x] w fun e w' => e = .returned (.int .i64 (pvI (idx l x l.length 0))) ∧ Below w0.heap.size w0 w' := by
  have H0 := Aside0.mk hB
  have HO := Aside0.mk hO
  obtain ⟨pa, pc, rfl⟩ := own_slice hO
  obtain ⟨out, ho⟩ : ∃ o, idx l x l.length 0 = o := ⟨_, rfl⟩
  rw [ho]
  have HOUT := Aside0.mk ho
  obtain ⟨n, hn⟩ : ∃ n, l.length = n := ⟨_, rfl⟩
  have HN := Aside0.mk hn
  rw [hn] at HO hl ⊢
  clear hB hO ho hn
  go_enter Tryd.func59, Tryd.ntmps59
  go_wp2
  go_loopw [8] (fun v8 wr => ∃ i : Nat, i ≤ n ∧ v8 = .int .i64 i ∧ Aside0 (idx l x (n - i) i = out) ∧ wr = w) (fun v8 _ => n - (intOf v8).toNat)
  case atStart => exact ⟨0, by omega, rfl, ⟨by rw [← HOUT.out, HN.out]; rfl⟩, rfl⟩
  case round =>
    obtain ⟨i, hi, rfl, HI, rfl⟩ := hrel
    by_cases hin : i < n
    · obtain ⟨g, cap, hv, _, _⟩ := own_shape HO.out (by have := HN.out; omega)
      injection hv with q1 q2 q3
      subst q1
      subst q3
      clear q2
      have t0 : wr.cell? ⟨g, i, none⟩ = some (.int .i64 (l.getD i 0)) := by
        have h := HO.out
        rw [← HN.out] at h
        exact OwnP.cell h (by rw [HN.out]; exact hin)
      have hf : n - i = (n - (i + 1)) + 1 := by omega
      have HF := Aside0.mk hf
      clear hf
      obtain ⟨y, hy⟩ : ∃ y, l.getD i 0 = y := ⟨_, rfl⟩
      rw [hy] at t0
      have HY := Aside0.mk hy
      clear hy
      by_cases e : x = y
      · have e2 : (x : Int) = (y : Int) := by omega
        have E := Aside0.mk e
        clear e
        go_wp2
        go_ret
        have := HI.out
        rw [HF.out, idx, HY.out, if_pos E.out] at this
        rw [← this]
        exact ⟨rfl, H0.out⟩
      · have e2 : ((x : Int) == (y : Int)) = false := by simp; omega
        have E := Aside0.mk e
        clear e
        go_wp2
        refine ⟨⟨i + 1, hin, by go_num, ⟨?_⟩, by first | rfl | trivial⟩, ?_⟩
        · have := HI.out
          rw [HF.out, idx, HY.out, if_neg E.out] at this
          exact this
        · simp [intOf]; omega
    · obtain rfl : n = i := by omega
      go_wp2
      go_ret
      have := HI.out
      rw [Nat.sub_self] at this
      rw [← this]
      exact ⟨rfl, H0.out⟩
set_option maxHeartbeats 2000000 in
set_option maxRecDepth 1000000 in
theorem Contains_c {w0 w : World} {b x : Nat} {v : Value} {l : List Nat} (hB : Below w0.heap.size w0 w) (hO : OwnP w b v l) (hl : l.length ≤ 1000) :
    Calls Tryd.prog 36 #[v, .int .i64 x] w fun e w' => e = .returned (.bool (decide (x ∈ l))) ∧ Below w0.heap.size w0 w' := by
  have HC := Aside0.mk (Index_c (x := x) hB hO hl)
  have hm := idx_mem (l := l) (x := x) l.length 0 (by omega)
  rw [List.drop_zero] at hm
  obtain ⟨o, ho⟩ : ∃ o, idx l x l.length 0 = o := ⟨_, rfl⟩
  rw [ho] at HC hm
  have hd : decide (0 ≤ pvI o) = decide (x ∈ l) := by
    rw [Bool.eq_iff_iff, decide_eq_true_iff, decide_eq_true_iff, ← hm]
    cases o with
    | none => simp [pvI]
    | some a => simp [pvI]
  have HD := Aside0.mk hd
  clear hB hO ho hm hd
  go_enter Tryd.func36, Tryd.ntmps36
  go_wp2_with (go_at_call 59; (with_reducible refine HC.out.mono ?_); rintro e w1 ⟨rfl, hV⟩; have HV := Aside0.mk hV; clear hV)
  go_ret
  exact ⟨by rw [← HD.out]; rfl, HV.out⟩

/-! make([]api.Rat, m) -/
theorem mad_get (z0 z1 z2 : Value) {m i : Nat} (hi : i < m) : (madeCells #[z0, z1, z2] (m * 3))[i * 3]? = some z0 ∧ (madeCells #[z0, z1, z2] (m * 3))[i * 3 + 1]? = some z1 ∧ (madeCells #[z0, z1, z2] (m * 3))[i * 3 + 2]? = some z2 := by
  have h0 : i * 3 < m * 3 := by omega
  have h1 : i * 3 + 1 < m * 3 := by omega
  have h2 : i * 3 + 2 < m * 3 := by omega
  have m0 : i * 3 % 3 = 0 := by omega
  have m1 : (i * 3 + 1) % 3 = 1 := by omega
  have m2 : (i * 3 + 2) % 3 = 2 := by omega
  refine ⟨?_, ?_, ?_⟩ <;> simp [madeCells, h0, h1, h2, m0, m1, m2]
theorem make_rats (m : Nat) (hm : m ≤ 1000) (w : World) : (Instr.makeSlice 30 (.int .i64 (m : Int)) (.int .i64 (m : Int))).run Tryd.prog w =
    .ok (.slice (some ⟨w.heap.size, 0, none⟩) m m) (w.alloc (.cells (madeCells #[.bool false, .string ⟨#[]⟩, .string ⟨#[]⟩] (m * 3)) 27)) := by
  obtain ⟨i, hi, hzz⟩ := Option.map_eq_some_iff.1 infoRat
  simp only [Prod.mk.injEq] at hzz
  obtain ⟨hz, hs, hb⟩ := hzz
  have hr := run_make (P := Tryd.prog) w 30 27 i _ Tryd.underlying30 hi hz .i64 .i64 m m (by omega) (Int.le_refl _) (by rw [hb]; omega) (by omega)
  simp only [Int.toNat_natCast, hs] at hr
  exact hr
theorem made_rowV (w : World) (m : Nat) : RowV (w.alloc (.cells (madeCells #[.bool false, .string ⟨#[]⟩, .string ⟨#[]⟩] (m * 3)) 27)) w.heap.size m (fun _ => 0) := by
  have h := World.rowIs_alloc w (madeCells #[.bool false, .string ⟨#[]⟩, .string ⟨#[]⟩] (m * 3)) 27
  have hz : rw_ 0 = (false, ⟨#[]⟩, ⟨#[]⟩) := by
    have := rv_zero
    simp only [rv, Value.agg.injEq, Array.mk.injEq, List.cons.injEq, Value.bool.injEq, Value.string.injEq, and_true] at this
    unfold rw_
    rw [this.1, this.2.1, this.2.2]
  refine ⟨by simp, fun i hi => ?_, fun o => ?_⟩
  · rw [hz]
    obtain ⟨h0, h1, h2⟩ := mad_get (.bool false) (.string ⟨#[]⟩) (.string ⟨#[]⟩) hi
    refine ⟨?_, ?_, ?_⟩
    · rw [cell_of_row _ w.heap.size (i * 3) _ _ (0, 0) (heap_alloc_new w _)]; exact h0
    · rw [cell_of_row _ w.heap.size (i * 3 + 1) _ _ (0, 0) (heap_alloc_new w _)]; exact h1
    · rw [cell_of_row _ w.heap.size (i * 3 + 2) _ _ (0, 0) (heap_alloc_new w _)]; exact h2
  · exact frozen_of_row _ w.heap.size o _ _ (heap_alloc_new w _)

/-- The vectors of the kernel. -/
def kv (F : Gr) (p : List Nat) (f : Nat) : Nat → Nat → Rat
  | 0 => fun k => if k = f then 1 else 0
  | t + 1 => fun k => if k = p.getD t 0 then -(F t f) else kv F p f t k
def frees (p : List Nat) (f : Nat) : List Nat := (List.range f).filter (fun x => decide (x ∉ p))
theorem frees_succ_in {p : List Nat} {f : Nat} (h : f ∈ p) : frees p (f + 1) = frees p f := by
  unfold frees; rw [List.range_succ, List.filter_append]; simp [h]
theorem frees_succ_out {p : List Nat} {f : Nat} (h : f ∉ p) : frees p (f + 1) = frees p f ++ [f] := by
  unfold frees; rw [List.range_succ, List.filter_append]; simp [h]
theorem frees_length (p : List Nat) (f : Nat) : (frees p f).length ≤ f := by
  unfold frees
  exact Nat.le_trans (List.length_filter_le _ _) (by simp)
end Go.Proofs.YtiamgjepcagohaaDoor.P
end
