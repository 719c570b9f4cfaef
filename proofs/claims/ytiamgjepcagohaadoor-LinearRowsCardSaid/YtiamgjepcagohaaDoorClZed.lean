/- ClZed: lemmas of this claim, of 4 texts. -/
import Derived.Test.YtiamgjepcagohaaDoorClRcon
import Derived.Test.YtiamgjepcagohaaDoorClKer2
section
/- The matrices that the laws are told. -/
namespace Go.Proofs.YtiamgjepcagohaaDoor.P
open Go Go.RowKit Go.Proofs.YtiamgjepcagohaaDoorW.PrintWords Go.Proofs.YtiamgjepcagohaaDoorW.PrintLast Go.Proofs.YtiamgjepcagohaaDoorW.PrintMore Go.Proofs.YtiamgjepcagohaaDoor.Ari

/-- The rows made so far: a slice of the call's own, all its blocks between b and r. -/
structure MG (W : World) (b r : Nat) (v : Value) (m i : Nat) (A C : Nat → Nat) (G : Nat → Nat → Rat) : Prop where
  own : W.ownsRow b 30 1 v i ((List.range i).map fun j => .slice (some ⟨A j, 0, none⟩) m (C j))
  rows : ∀ j, j < i → RowV W (A j) m (G j)
  ne : ∀ j, j < i → ∀ k, v.ownBlock = some k → k ≠ A j
  vb : ∀ k, v.ownBlock = some k → k < r
  ab : ∀ j, j < i → b ≤ A j ∧ A j < r
  inj : ∀ j k, j < i → k < i → A j = A k → j = k
section
variable {w W : World} {b r m i : Nat} {v : Value} {A C : Nat → Nat} {G : Nat → Nat → Rat} {S : Nat → Prop}
theorem MG.nil (W : World) (b r m : Nat) (A C : Nat → Nat) (G : Nat → Nat → Rat) : MG W b r (.slice none 0 0) m 0 A C G :=
  ⟨own_nil _ _ _ _, fun j hj => absurd hj (Nat.not_lt_zero _), fun j hj => absurd hj (Nat.not_lt_zero _), fun k hk => by simp [Value.ownBlock] at hk, fun j hj => absurd hj (Nat.not_lt_zero _), fun j k hj => absurd hj (Nat.not_lt_zero _)⟩
theorem MG.chg (k : MG w b r v m i A C G) (h : Chg w W S) (hs : ∀ x, x < r → ¬ S x) : MG W b r v m i A C G :=
  ⟨own_chg2 k.own h (fun x hx => hs x (k.vb x hx)), fun j hj => (k.rows j hj).chg h (hs _ (k.ab j hj).2), k.ne, k.vb, k.ab, k.inj⟩
theorem MG.below (k : MG w b r v m i A C G) (h : Below w.heap.size w W) : MG W b r v m i A C G := k.chg (Chg.of_below h (fun _ => False)) (fun _ _ h => h)
theorem MG.push {w1 : World} {x c : Nat} {v1 : Value} (k : MG W b r v m i A C G) (hx : RowV W x m (G i)) (hr : r ≤ x) (hbx : b ≤ x)
    (ho : w1.ownsRow b 30 1 v1 (i + 1) (((List.range i).map fun j => .slice (some ⟨A j, 0, none⟩) m (C j)) ++ [.slice (some ⟨x, 0, none⟩) m c])) (hg : W.grownBy w1 v.ownBlock) (ha : v1.ownBlock = v.ownBlock ∨ ∃ b, v1.ownBlock = some b ∧ W.heap.size ≤ b) :
    MG w1 b w1.heap.size v1 m (i + 1) (fun j => if j = i then x else A j) (fun j => if j = i then c else C j) G := by
  have hc : Chg W w1 (fun k => v.ownBlock = some k) := (Chg.refl W _).grown hg (fun k hk => .inl hk)
  have hxv : ∀ y, v.ownBlock = some y → y ≠ x := fun y hy e => by have := k.vb y hy; omega
  have hrow : ∀ j, j < i + 1 → RowV w1 (if j = i then x else A j) m (G j) := by
    intro j hj
    by_cases e : j = i
    · rw [if_pos e, e]
      exact hx.chg hc (fun h => hxv x h rfl)
    · rw [if_neg e]
      exact (k.rows j (by omega)).chg hc (fun h => k.ne j (by omega) _ h rfl)
  have hal : ∀ j, j < i → A j < r := fun j hj => (k.ab j hj).2
  refine ⟨?_, hrow, fun j hj y hy e => ?_, fun y hy => own_lt ho y hy, fun j hj => ⟨?_, (hrow j hj).lt⟩, fun j l hj hl h => ?_⟩
  · have e1 : ((List.range (i + 1)).map fun j => Value.slice (some ⟨if j = i then x else A j, 0, none⟩) m (if j = i then c else C j)) = ((List.range i).map fun j => Value.slice (some ⟨A j, 0, none⟩) m (C j)) ++ [Value.slice (some ⟨x, 0, none⟩) m c] := by
      rw [List.range_succ, List.map_append]
      congr 1
      · refine List.map_congr_left (fun j hj => ?_)
        rw [List.mem_range] at hj
        rw [if_neg (by omega), if_neg (by omega)]
      · simp
    rw [e1]
    exact ho
  · by_cases e2 : j = i
    · simp only [if_pos e2] at e
      rcases ha with ha | ⟨z, hz, hle⟩
      · exact hxv y (ha ▸ hy) e
      · have := hx.lt
        rw [hz] at hy
        injection hy with hy
        omega
    · simp only [if_neg e2] at e
      rcases ha with ha | ⟨z, hz, hle⟩
      · exact k.ne j (by omega) y (ha ▸ hy) e
      · have := (k.rows j (by omega)).lt
        rw [hz] at hy
        injection hy with hy
        omega
  · by_cases e2 : j = i
    · simp only [if_pos e2]; exact hbx
    · simp only [if_neg e2]; exact (k.ab j (by omega)).1
  · by_cases e1 : j = i
    · by_cases e2 : l = i
      · omega
      · simp only [if_pos e1, if_neg e2] at h
        have := hal l (by omega)
        omega
    · by_cases e2 : l = i
      · simp only [if_neg e1, if_pos e2] at h
        have := hal j (by omega)
        omega
      · simp only [if_neg e1, if_neg e2] at h
        exact k.inj j l (by omega) (by omega) h
theorem MG.grid (k : MG w b r v m i A C G) (h0 : 0 < i) : ∃ g cap, v = .slice (some ⟨g, 0, none⟩) i cap ∧ b ≤ g ∧ Grid w b g i m A C G := by
  obtain ⟨g, cap, rfl, hb, hg⟩ := own_shape k.own h0
  refine ⟨g, cap, rfl, hb, hb, hg, fun j hj => ?_, fun o => ?_, k.rows, fun j hj => (k.ab j hj).1, fun j hj e => k.ne j hj g (by simp [Value.ownBlock]) e.symm, k.inj⟩
  · rw [k.own.cellAt j (by omega)]
    simp [hj]
  · rcases k.own.2 with ⟨h, _⟩ | ⟨g', cap', cur, e, _, hh, _⟩
    · cases h
    · injection e with e1 e2 e3
      injection e1 with e1
      injection e1 with e1
      subst e1
      exact frozen_of_row _ g o _ _ hh
end
/-- A list of numbers below 65536 that can be read. -/
structure LU (W : World) (v : Value) (len : Nat) (l : Nat → Nat) : Prop where
  ex : ∃ (a : Option Addr) (c : Nat), v = .slice a len c ∧ ∀ j, j < len → ∃ ad, a = some ad ∧ W.cell? (ad.add j) = some (.int .u16 (l j : Int))
  lt : ∀ j, j < len → l j < 65536
  len : len ≤ 9223372036854775807
theorem LU.below {w W : World} {v : Value} {len : Nat} {l : Nat → Nat} (h : LU w v len l) (hb : Below w.heap.size w W) : LU W v len l := by
  obtain ⟨a, c, e, hc⟩ := h.ex
  refine ⟨⟨a, c, e, fun j hj => ?_⟩, h.lt, h.len⟩
  obtain ⟨ad, e2, h2⟩ := hc j hj
  exact ⟨ad, e2, (hb.cell (World.block_lt_of_cell? w _ h2)).trans h2⟩
/-- The numbers of a matrix. -/
def mxE (len : Nat) (l : Nat → Nat) (k : Nat) : Rat := if k < len then sgR (l k) else 0
def mxG (m len : Nat) (l : Nat → Nat) : Nat → Nat → Rat := fun i j => mxE len l (i * m + j)
theorem mxE_fit (len : Nat) (l : Nat → Nat) (k : Nat) : Fit 1 (mxE len l k) := by
  unfold mxE
  split
  · exact sgR_fit _
  · exact Fit.zero
set_option maxHeartbeats 2000000 in
set_option maxRecDepth 1000000 in
theorem Matrix_c {w0 w : World} {n m len : Nat} {lv : Value} {l : Nat → Nat} (hB : Below w0.heap.size w0 w) (hL : LU w lv len l) (hn0 : 0 < n) (hn : n ≤ 1000) (hm0 : 0 < m) (hm : m ≤ 1000) :
    Calls Tryd.prog 7 #[.int .i64 (n : Int), .int .i64 (m : Int), lv] w fun e w' => ∃ g cap A C, e = .returned (.slice (some ⟨g, 0, none⟩) n cap) ∧ Below w0.heap.size w0 w' ∧ w.heap.size ≤ g ∧ Grid w' w.heap.size g n m A C (mxG m len l) := by
  have H0 := Aside0.mk hB
  have HL := Aside0.mk hL
  obtain ⟨la, lc, rfl, _⟩ := hL.ex
  have hlen := hL.len
  have HS := Aside0.mk (And.intro hn0 (And.intro hn (And.intro hm0 hm)))
  have HM0 : Aside0 (MG w w.heap.size w.heap.size (.slice none 0 0) m 0 (fun _ => 0) (fun _ => 0) (mxG m len l)) := ⟨MG.nil _ _ _ _ _ _ _⟩
  have HB0 : Aside0 (Below w.heap.size w w) := ⟨Below.refl _ _⟩
  clear hB hL hn0 hm0
  go_enter Tryd.func7, Tryd.ntmps7
  go_wp2
  go_loopw [7, 8, 9] (fun v7 v8 v9 wr => ∃ (i K r : Nat) (A C : Nat → Nat), i ≤ n ∧ v8 = .int .i64 K ∧ v9 = .int .i64 i ∧ Aside0 (K = i * m) ∧ Aside0 (MG wr w.heap.size r v7 m i A C (mxG m len l)) ∧ Aside0 (r ≤ wr.heap.size) ∧ Aside0 (Below w.heap.size w wr)) (fun _ _ v9 _ => n - (intOf v9).toNat)
  case atStart => exact ⟨0, 0, w.heap.size, _, _, by omega, rfl, rfl, ⟨by simp⟩, HM0, ⟨Nat.le_refl _⟩, HB0⟩
  case round =>
    clear HM0 HB0
    obtain ⟨i, K, r, A, C, hi, rfl, rfl, HK0, HMG, HR, HB⟩ := hrel
    by_cases hin : i < n
    · obtain ⟨bi, hbi⟩ : ∃ b, wr.heap.size = b := ⟨_, rfl⟩
      have HBI : Aside0 (w.heap.size ≤ bi) := ⟨hbi ▸ HB.out.size⟩
      have HRB : Aside0 (r ≤ bi) := ⟨hbi ▸ HR.out⟩
      have HBLs : Aside0 (bi ≤ wr.heap.size) := ⟨Nat.le_of_eq hbi.symm⟩
      have HOs : Aside0 (OwnQ wr bi (.slice none 0 0) 0 (fun k => mxE len l (i * m + k))) := ⟨own_nil _ _ _ _⟩
      have HKs : Aside0 (K = i * m + 0 ∧ K ≤ 1000000) := ⟨by rw [HK0.out]; exact ⟨rfl, Nat.mul_le_mul (show i ≤ 1000 by omega) hm⟩⟩
      have HKK : Aside0 (i * m ≤ 1000000) := ⟨by have := HKs.out; omega⟩
      clear hbi HK0 HR
      go_wp2
      go_loopw [8, 10, 11] (fun v8 v10 v11 wr => ∃ (j K : Nat), j ≤ m ∧ v8 = .int .i64 K ∧ v11 = .int .i64 j ∧ Aside0 (K = i * m + j) ∧ Aside0 (OwnQ wr bi v10 j (fun k => mxE len l (i * m + k))) ∧ Aside0 (MG wr w.heap.size r u7 m i A C (mxG m len l)) ∧ Aside0 (bi ≤ wr.heap.size) ∧ Aside0 (Below w.heap.size w wr)) (fun _ _ v11 _ => m - (intOf v11).toNat)
      case atStart => exact ⟨0, K, by omega, rfl, rfl, ⟨HKs.out.1⟩, HOs, HMG, HBLs, HB⟩
      case round =>
        clear HOs HMG HBLs HB HKs
        obtain ⟨j, K, hj, rfl, rfl, HK, HO, HMG, HBL, HB⟩ := hrel
        by_cases hjm : j < m
        · have hKB : K ≤ 1001000 := by have := HK.out; have := HKK.out; omega
          go_upto_region 11 with (fail)
          obtain ⟨p12, hp12⟩ : ∃ x, wr.heap.size = x := ⟨_, rfl⟩
          obtain ⟨w5, hw5, HX, hV⟩ := box1 wr (.bool false) (.string ⟨#[]⟩) (.string ⟨#[]⟩) 27
          rw [hw5]
          have HPB : Aside0 (bi ≤ p12 ∧ (∀ y, u10.ownBlock = some y → y < p12)) := ⟨hp12 ▸ ⟨HBL.out, fun y hy => own_lt HO.out y hy⟩⟩
          rw [hp12] at HX ⊢
          replace HO := Aside0.mk (pw_own_below HO.out hV)
          replace HMG := Aside0.mk (HMG.out.below hV)
          replace HBL := Aside0.mk (Nat.le_trans HBL.out hV.size)
          replace HB := Aside0.mk (below_step HB.out hV)
          clear hw5 hp12 hV
          by_cases hK : K < len
          · obtain ⟨x, hx⟩ : ∃ x, l K = x := ⟨_, rfl⟩
            have hc : ∃ ad, la = some ad ∧ w5.cell? (ad.add K) = some (.int .u16 (x : Int)) := by
              obtain ⟨a', c', e, hc⟩ := (HL.out.below HB.out).ex
              injection e with e1 e2 e3
              subst e1
              rw [← hx]
              exact hc K hK
            obtain ⟨ad, rfl, hcl⟩ := hc
            have hxB : x < 65536 := by rw [← hx]; exact HL.out.lt K hK
            obtain ⟨q, hq⟩ : ∃ q, sgR x = q := ⟨_, rfl⟩
            have HQ : Aside0 (mxE len l (i * m + j) = q) := ⟨by rw [← HK.out]; unfold mxE; rw [if_pos hK, hx, hq]⟩
            have HSG : Aside0 (∀ U V : World, Below U.heap.size U V → Calls Tryd.prog 8 #[.int .u16 (x : Int)] V fun e w' => e = .returned (rv q) ∧ Below U.heap.size U w') := ⟨fun U V h => hq ▸ Signed_c h hxB⟩
            clear hx hq hxB
            go_upto_region 13 with (go_at_call 8; (with_reducible refine (HSG.out _ _ (Below.refl _ _)).mono ?_); rintro e w6 ⟨rfl, hV⟩; replace HO := Aside0.mk (pw_own_below HO.out hV); replace HMG := Aside0.mk (HMG.out.below hV); replace HBL := Aside0.mk (Nat.le_trans HBL.out hV.size); replace HB := Aside0.mk (below_step HB.out hV); replace HX := Aside0.mk (HX.out.below hV); clear hV hcl; have kx := (HX.out); have kx0 := kx.c0; have kx1 := kx.c1; have kx2 := kx.c2; have fx0 := kx.f0; have fx1 := kx.f1; have fx2 := kx.f2; clear kx)
            clear kx0 kx1 kx2 fx0 fx1 fx2
            obtain ⟨w7, hw7, hbx, hc⟩ := box_write HX.out (.bool (ngv q)) (.string (enc q.num.natAbs)) (.string (encD q.den))
            rw [hw7]
            replace HX := Aside0.mk hbx
            replace HO := Aside0.mk (own_chg2 HO.out hc (fun y hy e => by have := HPB.out.2 y hy; omega))
            replace HMG := Aside0.mk (HMG.out.chg hc (fun y hy e => by have := HPB.out.1; have := HRB.out; omega))
            replace HB := Aside0.mk (hc.out HB.out (fun y hy => by have := HPB.out.1; have := HBI.out; omega))
            replace HBL := Aside0.mk (Nat.le_trans HBL.out hc.size)
            clear hw7 hbx hc
            (have hvc : ∀ u ∈ [Value.bool (ngv q), Value.string (enc q.num.natAbs), Value.string (encD q.den)], u.oneCell' = true := by (intro u hu; simp only [List.mem_cons, List.not_mem_nil, or_false] at hu; rcases hu with rfl | rfl | rfl <;> rfl)); (have H1 := Aside0.mk hvc); (clear hvc); (have HL' : Aside0 (bi ≤ w7.heap.size ∧ (j + 1) * 40 ≤ 140737488355328) := ⟨HBL.out, by have := HS.out; omega⟩); (have kx := (HX.out); have kx0 := kx.c0; have kx1 := kx.c1; have kx2 := kx.c2; have fx0 := kx.f0; have fx1 := kx.f1; have fx2 := kx.f2; clear kx); (go_wp2_with (at_builtin; refine print_append_cells bi rfl (.tmp 35) (.tmp 37) 30 27 _ 3 40 rfl Tryd.underlying30 infoRat rfl (by decide) (by decide) u10 j (rcells (fun k => mxE len l (i * m + k)) j) [.bool (ngv q), .string (enc q.num.natAbs), .string (encD q.den)] rfl rfl rfl H1.out HO.out (Below.refl bi w7) HL'.out.1 HL'.out.2 ?_; intro v1 w8 ho1 hb1 hg1 ha1; have HO8 := Aside0.mk ho1; have HC8 := Aside0.mk (chg_of_belowB hb1); clear ho1 hb1 hg1 ha1 kx0 kx1 kx2 fx0 fx1 fx2)); go_roundw
            case rel => (refine ⟨j + 1, K + 1, by omega, by go_num, by go_num, ⟨by have := HK.out; omega⟩, ⟨?_⟩, ⟨HMG.out.chg HC8.out (fun y hy => by have := HRB.out; omega)⟩, ⟨Nat.le_trans HBL.out HC8.out.size⟩, ⟨HC8.out.out HB.out (fun y hy => by have := HBI.out; omega)⟩⟩); (have := HO8.out); (rw [← HQ.out]at this); exact this
            case measure => simp [intOf]; omega
          · have hq0 : mxE len l (i * m + j) = 0 := by rw [← HK.out]; unfold mxE; rw [if_neg hK]
            have hz := rv_zero
            simp only [rv, Value.agg.injEq, Array.mk.injEq, List.cons.injEq, Value.bool.injEq, Value.string.injEq, and_true] at hz
            obtain ⟨q, hq⟩ : ∃ q : Rat, 0 = q := ⟨_, rfl⟩
            rw [hq] at hq0 hz
            obtain ⟨z1, z2, z3⟩ := hz
            have HQ := Aside0.mk hq0
            replace HX : Aside0 (Bx w5 p12 (.bool (ngv q)) (.string (enc q.num.natAbs)) (.string (encD q.den))) := ⟨by rw [z1, z2, z3]; exact HX.out⟩
            have hK2 : ¬ ((K : Int) < (len : Int)) := by omega
            clear z1 z2 z3 hq hq0 hK
            go_upto_region 13 with (fail)
            obtain ⟨w7, rfl⟩ : ∃ w7, w7 = w5 := ⟨_, rfl⟩
            clear hK2
            (have hvc : ∀ u ∈ [Value.bool (ngv q), Value.string (enc q.num.natAbs), Value.string (encD q.den)], u.oneCell' = true := by (intro u hu; simp only [List.mem_cons, List.not_mem_nil, or_false] at hu; rcases hu with rfl | rfl | rfl <;> rfl)); (have H1 := Aside0.mk hvc); (clear hvc); (have HL' : Aside0 (bi ≤ w7.heap.size ∧ (j + 1) * 40 ≤ 140737488355328) := ⟨HBL.out, by have := HS.out; omega⟩); (have kx := (HX.out); have kx0 := kx.c0; have kx1 := kx.c1; have kx2 := kx.c2; have fx0 := kx.f0; have fx1 := kx.f1; have fx2 := kx.f2; clear kx); (go_wp2_with (at_builtin; refine print_append_cells bi rfl (.tmp 35) (.tmp 37) 30 27 _ 3 40 rfl Tryd.underlying30 infoRat rfl (by decide) (by decide) u10 j (rcells (fun k => mxE len l (i * m + k)) j) [.bool (ngv q), .string (enc q.num.natAbs), .string (encD q.den)] rfl rfl rfl H1.out HO.out (Below.refl bi w7) HL'.out.1 HL'.out.2 ?_; intro v1 w8 ho1 hb1 hg1 ha1; have HO8 := Aside0.mk ho1; have HC8 := Aside0.mk (chg_of_belowB hb1); clear ho1 hb1 hg1 ha1 kx0 kx1 kx2 fx0 fx1 fx2)); go_roundw
            case rel => (refine ⟨j + 1, K + 1, by omega, by go_num, by go_num, ⟨by have := HK.out; omega⟩, ⟨?_⟩, ⟨HMG.out.chg HC8.out (fun y hy => by have := HRB.out; omega)⟩, ⟨Nat.le_trans HBL.out HC8.out.size⟩, ⟨HC8.out.out HB.out (fun y hy => by have := HBI.out; omega)⟩⟩); (have := HO8.out); (rw [← HQ.out]at this); exact this
            case measure => simp [intOf]; omega
        · obtain rfl : m = j := by omega
          obtain ⟨g, cap, rfl, hg1, hg2⟩ := own_shape HO.out HS.out.2.2.1
          have HRV := Aside0.mk (own_rowV HO.out)
          have HGB : Aside0 (bi ≤ g ∧ w.heap.size ≤ wr.heap.size) := ⟨hg1, HB.out.size⟩
          have H1 : Aside0 (∀ u ∈ [Value.slice (some ⟨g, 0, none⟩) m cap], u.oneCell' = true) := ⟨fun u hu => by
            simp only [List.mem_singleton] at hu
            rw [hu]; rfl⟩
          have HLL : Aside0 ((i + 1) * 24 ≤ 140737488355328) := ⟨by omega⟩
          have HOW := Aside0.mk HMG.out.own
          have HK2 : Aside0 (K = (i + 1) * m) := ⟨by rw [HK.out, Nat.succ_mul]⟩
          clear hg1 hg2
          go_wp2_with (at_builtin; refine print_append_cells w.heap.size rfl (.tmp 39) (.tmp 41) 24 30 _ 1 24 rfl Tryd.underlying24 infoRow rfl (by decide) (by decide) u7 i ((List.range i).map fun j => .slice (some ⟨A j, 0, none⟩) m (C j)) [.slice (some ⟨g, 0, none⟩) m cap] rfl rfl rfl H1.out HOW.out (Below.refl w.heap.size wr) HGB.out.2 HLL.out ?_; intro v1 w8 ho1 hb1 hg1 ha1; have HP8 := Aside0.mk (HMG.out.push HRV.out (Nat.le_trans HRB.out HGB.out.1) (Nat.le_trans HBI.out HGB.out.1) ho1 hg1 ha1); have HB8 := Aside0.mk ((chg_of_belowB hb1).out HB.out (fun y hy => hy)); clear ho1 hb1 hg1 ha1)
          go_roundw
          case rel => exact ⟨i + 1, K, _, _, _, by omega, rfl, by go_num, HK2, HP8, ⟨Nat.le_refl _⟩, HB8⟩
          case measure => simp [intOf]; omega
    · obtain rfl : n = i := by omega
      obtain ⟨g, cap, rfl, hg, hG⟩ := HMG.out.grid HS.out.1
      go_wp2
      go_ret
      exact ⟨g, cap, A, C, rfl, below_step H0.out HB.out, hg, hG⟩
end Go.Proofs.YtiamgjepcagohaaDoor.P
end
section
/- Package linear: Apply. -/
namespace Go.Proofs.YtiamgjepcagohaaDoor.P
open Go Go.RowKit Go.Proofs.YtiamgjepcagohaaDoorW.PrintWords Go.Proofs.YtiamgjepcagohaaDoorW.PrintLast Go.Proofs.YtiamgjepcagohaaDoorW.PrintMore Go.Proofs.YtiamgjepcagohaaDoor.Ari

/-- A list of numbers that can be read. -/
structure Vec (W : World) (v : Value) (m : Nat) (X : Nat → Raw) : Prop where
  ex : ∃ (a : Option Addr) (c : Nat), v = .slice a m c ∧ RowAt W a m X
/-- Row times vector, as the program adds it up. -/
def dot (e x : Nat → Rat) : Nat → Rat
  | 0 => 0
  | k + 1 => dot e x k + e k * x k

end Go.Proofs.YtiamgjepcagohaaDoor.P
end
section
/- Package linear: integers with a sign. -/
namespace Go.Proofs.YtiamgjepcagohaaDoor.P
open Go Go.RowKit Go.Proofs.YtiamgjepcagohaaDoorW.PrintWords Go.Proofs.YtiamgjepcagohaaDoorW.PrintLast Go.Proofs.YtiamgjepcagohaaDoorW.PrintMore Go.Proofs.YtiamgjepcagohaaDoor.Ari

abbrev Sg := Bool × Nat
abbrev iv (e : Sg) : Value := .agg #[.bool e.1, .string (enc e.2)]
def zt (a b : Sg) : Sg := (a.1 != b.1, a.2 * b.2)
def zm (a b : Sg) : Sg := if a.1 ≠ b.1 then (a.1, a.2 + b.2) else if b.2 ≤ a.2 then (a.1, a.2 - b.2) else (!a.1, b.2 - a.2)
def zo (a b : Sg) : Sg := (a.1 != b.1, a.2 / b.2)
/-- A variable of two cells. -/
structure Bz (W : World) (g : Nat) (a b : Value) : Prop where
  lt : g < W.heap.size
  c0 : W.cell? ⟨g, 0, none⟩ = some a
  c1 : W.cell? ⟨g, 1, none⟩ = some b
  f0 : W.frozen? ⟨g, 0, none⟩ = false
  f1 : W.frozen? ⟨g, 1, none⟩ = false
section
variable {w W : World} {g : Nat} {a b : Value} {S : Nat → Prop}
theorem Bz.chg (h : Bz w g a b) (hb : Chg w W S) (hs : ¬ S g) : Bz W g a b :=
  ⟨Nat.lt_of_lt_of_le h.lt hb.size, (cell_chg hb h.lt hs).trans h.c0, (cell_chg hb h.lt hs).trans h.c1, (frozen_chg hb h.lt hs).trans h.f0, (frozen_chg hb h.lt hs).trans h.f1⟩
theorem Bz.below (h : Bz w g a b) (hb : Below w.heap.size w W) : Bz W g a b := h.chg (Chg.of_below hb (fun _ => False)) (fun h => h)
theorem Bz.alloc (w : World) (a b : Value) (t : TypeId) : Bz (w.alloc (.cells #[a, b] t)) w.heap.size a b := by
  constructor <;> simp
theorem Bz.set (h : Bz W g a b) (a' b' : Value) : Bz ((W.setCell ⟨g, 0, none⟩ a').setCell ⟨g, 1, none⟩ b') g a' b' := by
  obtain ⟨h0, h1, h2, h3, h4⟩ := h
  refine ⟨?_, ?_, ?_, ?_, ?_⟩
  · simp [go_sem, *]
  · simp [go_sem, *]
  · simp [go_sem, *]
  all_goals (rw [World.frozen?_setCell, World.frozen?_setCell]; assumption)
theorem Bz.load (h : Bz W g a b) : (loadVar 68 ⟨g, 0, none⟩).run Tryd.prog W = .ok (.agg #[a, b]) W := by
  obtain ⟨h0, h1, h2, h3, h4⟩ := h
  simp [go_sem, *]
theorem results_bz {fn : Func} {p : Tmp} {tmps : Array Value} (h : fn.results = #[.cell p 68]) (hp : tmps.getD p undef = .pointer (some ⟨g, 0, none⟩)) (hb : Bz W g a b) :
    (results fn tmps).run Tryd.prog W = .ok (.agg #[a, b]) W := by
  have h1 := hb.load
  have h2 : tmps[p]?.getD undef = .pointer (some ⟨g, 0, none⟩) := by simpa using hp
  simp only [results, h]
  simp [Sem.run_bind, Result.andThen, h2, asAddr, h1]
theorem bz3 (w : World) (a b a' b' : Value) (t : TypeId) : ∃ W, ((w.alloc (.cells #[a, b] t)).alloc (.cells #[a', b'] t)).alloc (.cells #[.bool false, .string ⟨#[]⟩] t) = W ∧ Aside0 (Bz W w.heap.size a b) ∧ Aside0 (Bz W (w.heap.size + 1) a' b') ∧ Aside0 (Bz W (w.heap.size + 1 + 1) (.bool false) (.string ⟨#[]⟩)) ∧ Below w.heap.size w W := by
  refine ⟨_, rfl, ⟨(Bz.alloc _ _ _ _).below (below_alloc (below_alloc (Below.refl _ _) _) _)⟩, ⟨?_⟩, ⟨?_⟩, below_alloc (below_alloc (below_alloc (Below.refl _ _) _) _) _⟩
  · have := (Bz.alloc (w.alloc (.cells #[a, b] t)) a' b' t).below (below_alloc (Below.refl _ _) (.cells #[.bool false, .string ⟨#[]⟩] t))
    simpa using this
  · have := Bz.alloc ((w.alloc (.cells #[a, b] t)).alloc (.cells #[a', b'] t)) (.bool false) (.string ⟨#[]⟩) t
    simpa using this
theorem bz1 (w : World) (a b : Value) (t : TypeId) : ∃ W, w.alloc (.cells #[a, b] t) = W ∧ Aside0 (Bz W w.heap.size a b) ∧ Below w.heap.size w W :=
  ⟨_, rfl, ⟨Bz.alloc _ _ _ _⟩, below_alloc (Below.refl _ _) _⟩
theorem below_set2 {w W : World} {g : Nat} {u u' : Value} (h : Below w.heap.size w W) (hg : w.heap.size ≤ g) : Below w.heap.size w ((W.setCell ⟨g, 0, none⟩ u).setCell ⟨g, 1, none⟩ u') := below_set (below_set h hg) hg
end
set_option maxHeartbeats 2000000 in
set_option maxRecDepth 1000000 in
theorem times_c {w0 w : World} {a b : Sg} {N M : Nat} (hB : Below w0.heap.size w0 w) (h1 : nb a.2 ≤ N) (h2 : nb b.2 ≤ M) (hN : N + M ≤ 1073741824) :
    Calls Tryd.prog 61 #[iv a, iv b] w fun e w' => e = .returned (iv (zt a b)) ∧ Below w0.heap.size w0 w' := by
  obtain ⟨b1, x⟩ := a
  obtain ⟨b2, y⟩ := b
  have H0 := Aside0.mk hB; obtain ⟨W, hW, HX, HY, HR, hbW⟩ := bz3 w (.bool b1) (.string (enc x)) (.bool b2) (.string (enc y)) 68; have HW : Aside0 (Below w0.heap.size w0 W) := ⟨below_step hB hbW⟩; have HE := Aside0.mk hW
  have S1 : Sm x := ⟨by simp only at h1; omega⟩
  have S2 : Sm y := ⟨by simp only at h2; omega⟩
  obtain ⟨z, hz⟩ : ∃ z, x * y = z := ⟨_, rfl⟩
  have HM : Aside0 (∀ U V : World, Below U.heap.size U V → Calls Tryd.prog 27 #[.string (enc x), .string (enc y)] V fun e w' => e = .returned (.string (enc z)) ∧ Below U.heap.size U w') := ⟨fun U V h => hz ▸ mul_s h S1 S2⟩
  have HZ : Aside0 (iv (zt (b1, x) (b2, y)) = .agg #[.bool (b1 != b2), .string (enc z)]) := ⟨by rw [← hz]; rfl⟩
  rw [HZ.out]
  clear hB hW hbW h1 h2 hN hz HZ
  go_enter Tryd.func61, Tryd.ntmps61
  go_upto_region 1 with (fail)
  rw [HE.out]
  (refine wp_region_below_tail 11 (by kernel_rfl) (by kernel_rfl) ?_); (simp only [List.take_succ_cons, List.take_zero, List.drop_succ_cons, List.drop_zero]); (repeat (refine wpQuiet_step (fun K hK => ?_); go_simp; first | (refine hK _ ?_; clear hK K) | (apply Exists.intro; refine ⟨fun V hV => ?_, hK _ ?_⟩; (focus ((first | rfl | ((with_reducible exact HM.out _ _ hV)) | ((have kx := (HX.out.below hV)); have kc0 := kx.c0; have kc1 := kx.c1; clear kx; go_simp; first | rfl | fail) | ((have kx := (HY.out.below hV)); have kc0 := kx.c0; have kc1 := kx.c1; clear kx; go_simp; first | rfl | fail)))); clear hK K))); (refine wpQuiet_nil ?_); (intro V hV)
  have kx := (HR.out.below hV); have kr0 := kx.c0; have kr1 := kx.c1; have fr0 := kx.f0; have fr1 := kx.f1; clear kx
  go_wp2
  refine bodyPost_ret (results_bz rfl rfl ((HR.out.below hV).set _ _)) rfl ?_
  exact ⟨rfl, below_set2 (below_step HW.out hV) (by have := H0.out.size; omega)⟩

set_option maxHeartbeats 2000000 in
set_option maxRecDepth 1000000 in
theorem over_c {w0 w : World} {a b : Sg} {N : Nat} (hB : Below w0.heap.size w0 w) (h1 : nb a.2 ≤ N) (h2 : nb b.2 ≤ N) (hN : N ≤ 1073741824) (h0 : 0 < b.2) :
    Calls Tryd.prog 63 #[iv a, iv b] w fun e w' => e = .returned (iv (zo a b)) ∧ Below w0.heap.size w0 w' := by
  obtain ⟨b1, x⟩ := a
  obtain ⟨b2, y⟩ := b
  have H0 := Aside0.mk hB; obtain ⟨W, hW, HX, HY, HR, hbW⟩ := bz3 w (.bool b1) (.string (enc x)) (.bool b2) (.string (enc y)) 68; have HW : Aside0 (Below w0.heap.size w0 W) := ⟨below_step hB hbW⟩; have HE := Aside0.mk hW
  have S1 : Sm x := ⟨by simp only at h1; omega⟩
  have S2 : Sm y := ⟨by simp only at h2; omega⟩
  obtain ⟨z, hz⟩ : ∃ z, x / y = z := ⟨_, rfl⟩
  obtain ⟨r, hr⟩ : ∃ z, x % y = z := ⟨_, rfl⟩
  have HM : Aside0 (∀ U V : World, Below U.heap.size U V → Calls Tryd.prog 51 #[.string (enc x), .string (enc y)] V fun e w' => e = .returned (.tuple #[.string (enc z), .string (enc r), .bool true]) ∧ Below U.heap.size U w') := ⟨fun U V h => hr ▸ hz ▸ div_s h S1 S2 h0⟩
  have HZ : Aside0 (iv (zo (b1, x) (b2, y)) = .agg #[.bool (b1 != b2), .string (enc z)]) := ⟨by rw [← hz]; rfl⟩
  rw [HZ.out]
  clear hB hW hbW h1 h2 hN hz hr HZ h0
  go_enter Tryd.func63, Tryd.ntmps63
  go_upto_region 1 with (fail)
  rw [HE.out]
  have kx := (HX.out); have kx0 := kx.c0; have kx1 := kx.c1; have fx0 := kx.f0; have fx1 := kx.f1; clear kx; have kx := (HY.out); have ky0 := kx.c0; have ky1 := kx.c1; have fy0 := kx.f0; have fy1 := kx.f1; clear kx; have kx := (HR.out); have kr0 := kx.c0; have kr1 := kx.c1; have fr0 := kx.f0; have fr1 := kx.f1; clear kx
  go_wp2_with (go_at_call 51; (with_reducible refine (HM.out _ _ (Below.refl _ _)).mono ?_); rintro e w1 ⟨rfl, hV⟩; replace HX := Aside0.mk (HX.out.below hV); replace HY := Aside0.mk (HY.out.below hV); replace HR := Aside0.mk (HR.out.below hV); replace HW := Aside0.mk (below_step HW.out hV); clear kx0 kx1 fx0 fx1 ky0 ky1 fy0 fy1 kr0 kr1 fr0 fr1; have kx := (HX.out); have kx0 := kx.c0; have kx1 := kx.c1; have fx0 := kx.f0; have fx1 := kx.f1; clear kx; have kx := (HY.out); have ky0 := kx.c0; have ky1 := kx.c1; have fy0 := kx.f0; have fy1 := kx.f1; clear kx; have kx := (HR.out); have kr0 := kx.c0; have kr1 := kx.c1; have fr0 := kx.f0; have fr1 := kx.f1; clear kx; clear hV)
  refine bodyPost_ret (results_bz rfl rfl (HR.out.set _ _)) rfl ?_
  exact ⟨rfl, below_set2 HW.out (by have := H0.out.size; omega)⟩
set_option maxHeartbeats 2000000 in
set_option maxRecDepth 1000000 in
theorem minusZ_c {w0 w : World} {a b : Sg} {N : Nat} (hB : Below w0.heap.size w0 w) (h1 : nb a.2 ≤ N) (h2 : nb b.2 ≤ N) (hN : N + 1 ≤ 1073741824) :
    Calls Tryd.prog 62 #[iv a, iv b] w fun e w' => e = .returned (iv (zm a b)) ∧ Below w0.heap.size w0 w' := by
  obtain ⟨b1, x⟩ := a
  obtain ⟨b2, y⟩ := b
  have H0 := Aside0.mk hB; obtain ⟨W, hW, HX, HY, HR, hbW⟩ := bz3 w (.bool b1) (.string (enc x)) (.bool b2) (.string (enc y)) 68; have HW : Aside0 (Below w0.heap.size w0 W) := ⟨below_step hB hbW⟩; have HE := Aside0.mk hW
  have S1 : Sm x := ⟨by simp only at h1; omega⟩
  have S2 : Sm y := ⟨by simp only at h2; omega⟩
  have SS := Aside0.mk (And.intro S1 S2)
  clear hB hW hbW h1 h2 hN S1 S2
  by_cases hb : b1 = b2
  · subst hb
    rcases Nat.lt_or_ge x y with hl | hl
    · have HL := Aside0.mk hl
      obtain ⟨z, hz⟩ : ∃ z, y - x = z := ⟨_, rfl⟩
      have HZ : Aside0 (iv (zm (b1, x) (b1, y)) = .agg #[.bool !b1, .string (enc z)] ∧ y - x = z) := ⟨by
        refine ⟨?_, hz⟩
        unfold zm
        rw [if_neg (by simp), if_neg (by simp only; omega), ← hz]⟩
      rw [HZ.out.1]
      clear hz hl
      go_enter Tryd.func62, Tryd.ntmps62
      go_upto_region 1 with (fail)
      rw [HE.out]
      have kx := (HX.out); have kx0 := kx.c0; have kx1 := kx.c1; have fx0 := kx.f0; have fx1 := kx.f1; clear kx; have kx := (HY.out); have ky0 := kx.c0; have ky1 := kx.c1; have fy0 := kx.f0; have fy1 := kx.f1; clear kx; have kx := (HR.out); have kr0 := kx.c0; have kr1 := kx.c1; have fr0 := kx.f0; have fr1 := kx.f1; clear kx
      go_wp2_with (first
        | (go_at_call 47; (with_reducible refine (sub_gt_c (Below.refl _ _) SS.out.1 SS.out.2 HL.out).mono ?_); rintro e w1 ⟨rfl, hV⟩; replace HX := Aside0.mk (HX.out.below hV); replace HY := Aside0.mk (HY.out.below hV); replace HR := Aside0.mk (HR.out.below hV); replace HW := Aside0.mk (below_step HW.out hV); clear kx0 kx1 fx0 fx1 ky0 ky1 fy0 fy1 kr0 kr1 fr0 fr1; have kx := (HX.out); have kx0 := kx.c0; have kx1 := kx.c1; have fx0 := kx.f0; have fx1 := kx.f1; clear kx; have kx := (HY.out); have ky0 := kx.c0; have ky1 := kx.c1; have fy0 := kx.f0; have fy1 := kx.f1; clear kx; have kx := (HR.out); have kr0 := kx.c0; have kr1 := kx.c1; have fr0 := kx.f0; have fr1 := kx.f1; clear kx; clear hV)
        | (go_at_call 47; (with_reducible refine (sub_le_c (Below.refl _ _) SS.out.2 SS.out.1 (Nat.le_of_lt HL.out) HZ.out.2).mono ?_); rintro e w1 ⟨rfl, hV⟩; replace HX := Aside0.mk (HX.out.below hV); replace HY := Aside0.mk (HY.out.below hV); replace HR := Aside0.mk (HR.out.below hV); replace HW := Aside0.mk (below_step HW.out hV); clear kx0 kx1 fx0 fx1 ky0 ky1 fy0 fy1 kr0 kr1 fr0 fr1; have kx := (HX.out); have kx0 := kx.c0; have kx1 := kx.c1; have fx0 := kx.f0; have fx1 := kx.f1; clear kx; have kx := (HY.out); have ky0 := kx.c0; have ky1 := kx.c1; have fy0 := kx.f0; have fy1 := kx.f1; clear kx; have kx := (HR.out); have kr0 := kx.c0; have kr1 := kx.c1; have fr0 := kx.f0; have fr1 := kx.f1; clear kx; clear hV))
      refine bodyPost_ret (results_bz rfl rfl (HR.out.set _ _)) rfl ?_
      exact ⟨rfl, below_set2 HW.out (by have := H0.out.size; omega)⟩
    · have HL := Aside0.mk hl
      obtain ⟨z, hz⟩ : ∃ z, x - y = z := ⟨_, rfl⟩
      have HZ : Aside0 (iv (zm (b1, x) (b1, y)) = .agg #[.bool b1, .string (enc z)] ∧ x - y = z) := ⟨by
        refine ⟨?_, hz⟩
        unfold zm
        rw [if_neg (by simp), if_pos (by simpa using hl), ← hz]⟩
      rw [HZ.out.1]
      clear hz hl
      go_enter Tryd.func62, Tryd.ntmps62
      go_upto_region 1 with (fail)
      rw [HE.out]
      have kx := (HX.out); have kx0 := kx.c0; have kx1 := kx.c1; have fx0 := kx.f0; have fx1 := kx.f1; clear kx; have kx := (HY.out); have ky0 := kx.c0; have ky1 := kx.c1; have fy0 := kx.f0; have fy1 := kx.f1; clear kx; have kx := (HR.out); have kr0 := kx.c0; have kr1 := kx.c1; have fr0 := kx.f0; have fr1 := kx.f1; clear kx
      go_wp2_with (go_at_call 47; (with_reducible refine (sub_le_c (Below.refl _ _) SS.out.1 SS.out.2 HL.out HZ.out.2).mono ?_); rintro e w1 ⟨rfl, hV⟩; replace HX := Aside0.mk (HX.out.below hV); replace HY := Aside0.mk (HY.out.below hV); replace HR := Aside0.mk (HR.out.below hV); replace HW := Aside0.mk (below_step HW.out hV); clear kx0 kx1 fx0 fx1 ky0 ky1 fy0 fy1 kr0 kr1 fr0 fr1; have kx := (HX.out); have kx0 := kx.c0; have kx1 := kx.c1; have fx0 := kx.f0; have fx1 := kx.f1; clear kx; have kx := (HY.out); have ky0 := kx.c0; have ky1 := kx.c1; have fy0 := kx.f0; have fy1 := kx.f1; clear kx; have kx := (HR.out); have kr0 := kx.c0; have kr1 := kx.c1; have fr0 := kx.f0; have fr1 := kx.f1; clear kx; clear hV)
      refine bodyPost_ret (results_bz rfl rfl (HR.out.set _ _)) rfl ?_
      exact ⟨rfl, below_set2 HW.out (by have := H0.out.size; omega)⟩
  · obtain ⟨z, hz⟩ : ∃ z, x + y = z := ⟨_, rfl⟩
    have HM : Aside0 (∀ U V : World, Below U.heap.size U V → Calls Tryd.prog 46 #[.string (enc x), .string (enc y)] V fun e w' => e = .returned (.string (enc z)) ∧ Below U.heap.size U w') := ⟨fun U V h => hz ▸ add_s h SS.out.1 SS.out.2⟩
    have HZ : Aside0 (iv (zm (b1, x) (b2, y)) = .agg #[.bool b1, .string (enc z)]) := ⟨by
      unfold zm
      rw [if_pos (by simpa using hb), ← hz]⟩
    rw [HZ.out]
    have hne : (b1 == b2) = false := beq_bool_ne hb
    clear hz HZ hb
    go_enter Tryd.func62, Tryd.ntmps62
    go_upto_region 1 with (fail)
    rw [HE.out]
    have kx := (HX.out); have kx0 := kx.c0; have kx1 := kx.c1; have fx0 := kx.f0; have fx1 := kx.f1; clear kx; have kx := (HY.out); have ky0 := kx.c0; have ky1 := kx.c1; have fy0 := kx.f0; have fy1 := kx.f1; clear kx; have kx := (HR.out); have kr0 := kx.c0; have kr1 := kx.c1; have fr0 := kx.f0; have fr1 := kx.f1; clear kx
    go_upto_region 2 with (fail)
    clear kx0 kx1 fx0 fx1 ky0 ky1 fy0 fy1 kr0 kr1 fr0 fr1
    (refine wp_region_below_tail 8 (by kernel_rfl) (by kernel_rfl) ?_); (simp only [List.take_succ_cons, List.take_zero, List.drop_succ_cons, List.drop_zero]); (repeat (refine wpQuiet_step (fun K hK => ?_); go_simp; first | (refine hK _ ?_; clear hK K) | (apply Exists.intro; refine ⟨fun V hV => ?_, hK _ ?_⟩; (focus ((first | rfl | ((with_reducible exact HM.out _ _ hV)) | ((have kx := (HX.out.below hV)); have kc0 := kx.c0; have kc1 := kx.c1; clear kx; go_simp; first | rfl | fail) | ((have kx := (HY.out.below hV)); have kc0 := kx.c0; have kc1 := kx.c1; clear kx; go_simp; first | rfl | fail)))); clear hK K))); (refine wpQuiet_nil ?_); (intro V hV)
    have kx := (HR.out.below hV); have kr0 := kx.c0; have kr1 := kx.c1; have fr0 := kx.f0; have fr1 := kx.f1; clear kx
    go_wp2
    refine bodyPost_ret (results_bz rfl rfl ((HR.out.below hV).set _ _)) rfl ?_
    exact ⟨rfl, below_set2 (below_step HW.out hV) (by have := H0.out.size; omega)⟩
end Go.Proofs.YtiamgjepcagohaaDoor.P
end
section
/- Rows of integers in memory, and slices of such rows. -/
namespace Go.Proofs.YtiamgjepcagohaaDoor.P
open Go Go.RowKit Go.Proofs.YtiamgjepcagohaaDoorW.PrintWords Go.Proofs.YtiamgjepcagohaaDoorW.PrintLast Go.Proofs.YtiamgjepcagohaaDoorW.PrintMore Go.Proofs.YtiamgjepcagohaaDoor.Ari

structure Ez (W : World) (b o : Nat) (e : Sg) : Prop where
  c0 : W.cell? ⟨b, o, none⟩ = some (.bool e.1)
  c1 : W.cell? ⟨b, o + 1, none⟩ = some (.string (enc e.2))
section
variable {w W : World} {b o n m : Nat} {e e' : Sg} {S : Nat → Prop}
theorem Ez.lt (h : Ez W b o e) : b < W.heap.size := World.block_lt_of_cell? W ⟨b, o, none⟩ h.c0
theorem Ez.chg (k : Ez w b o e) (h : Chg w W S) (hs : ¬ S b) : Ez W b o e :=
  ⟨(cell_chg h k.lt hs).trans k.c0, (cell_chg h k.lt hs).trans k.c1⟩
theorem Ez.below (k : Ez w b o e) (h : Below w.heap.size w W) : Ez W b o e := k.chg (Chg.of_below h (fun _ => False)) (fun h => h)
/-- A row of this call's own: it can be written. -/
structure RowZ (W : World) (b m : Nat) (q : Nat → Sg) : Prop where
  lt : b < W.heap.size
  el : ∀ k, k < m → Ez W b (k * 2) (q k)
  fr : ∀ o, W.frozen? ⟨b, o, none⟩ = false
theorem RowZ.chg {q : Nat → Sg} (k : RowZ w b m q) (h : Chg w W S) (hs : ¬ S b) : RowZ W b m q :=
  ⟨Nat.lt_of_lt_of_le k.lt h.size, fun i hi => (k.el i hi).chg h hs, fun o => (frozen_chg h k.lt hs).trans (k.fr o)⟩
theorem RowZ.below {q : Nat → Sg} (k : RowZ w b m q) (h : Below w.heap.size w W) : RowZ W b m q := k.chg (Chg.of_below h (fun _ => False)) (fun h => h)
theorem RowZ.congr {q q' : Nat → Sg} (k : RowZ w b m q) (h : ∀ i, i < m → q i = q' i) : RowZ w b m q' := ⟨k.lt, fun i hi => h i hi ▸ k.el i hi, k.fr⟩
theorem set2_other {b o b' o' : Nat} {u0 u1 : Value} (h : b ≠ b' ∨ o' + 1 < o ∨ o < o') :
    (((W.setCell ⟨b', o', none⟩ u0).setCell ⟨b', o' + 1, none⟩ u1)).cell? ⟨b, o, none⟩ = W.cell? ⟨b, o, none⟩ := by
  rw [World.cell?_setCell_other, World.cell?_setCell_other]
  all_goals intro h2; injection h2 with h3 h4; omega
theorem Ez.set (h : Ez W b o e) (x : Bool) (n : Nat) : Ez ((W.setCell ⟨b, o, none⟩ (.bool x)).setCell ⟨b, o + 1, none⟩ (.string (enc n))) b o (x, n) := by
  obtain ⟨h0, h1⟩ := h
  refine ⟨?_, ?_⟩
  · simp [go_sem, *]
  · simp [go_sem, *]
theorem Ez.other (h : Ez W b o e) {b' o' : Nat} {u0 u1 : Value} (hne : b ≠ b' ∨ o' + 1 < o ∨ o + 1 < o') : Ez ((W.setCell ⟨b', o', none⟩ u0).setCell ⟨b', o' + 1, none⟩ u1) b o e :=
  ⟨(set2_other (by omega)).trans h.c0, (set2_other (by omega)).trans h.c1⟩
theorem RowZ.set {q : Nat → Sg} (h : RowZ W b m q) {k : Nat} (hk : k < m) (r : Sg) : RowZ ((W.setCell ⟨b, k * 2, none⟩ (.bool r.1)).setCell ⟨b, k * 2 + 1, none⟩ (.string (enc r.2))) b m (fun i => if i = k then r else q i) := by
  refine ⟨by simpa using h.lt, fun i hi => ?_, fun o => ?_⟩
  · by_cases e : i = k
    · subst e
      rw [if_pos rfl]
      exact (h.el i hi).set _ _
    · rw [if_neg e]
      exact (h.el i hi).other (by omega)
  · rw [World.frozen?_setCell, World.frozen?_setCell]; exact h.fr o
theorem chg_set2 (h : Chg w W S) {b o : Nat} (hp : S b ∨ w.heap.size ≤ b) (u0 u1 : Value) : Chg w ((W.setCell ⟨b, o, none⟩ u0).setCell ⟨b, o + 1, none⟩ u1) S :=
  (h.setCell (p := ⟨b, o, none⟩) hp u0).setCell (p := ⟨b, o + 1, none⟩) hp u1
/-- A slice of n own rows of m numbers each. -/
structure GridZ (W : World) (B g n m : Nat) (A C : Nat → Nat) (G : Nat → Nat → Sg) : Prop where
  base : B ≤ g
  lt : g < W.heap.size
  top : ∀ i, i < n → W.cell? ⟨g, i, none⟩ = some (.slice (some ⟨A i, 0, none⟩) m (C i))
  ftop : ∀ o, W.frozen? ⟨g, o, none⟩ = false
  rows : ∀ i, i < n → RowZ W (A i) m (G i)
  ge : ∀ i, i < n → B ≤ A i
  ne : ∀ i, i < n → A i ≠ g
  inj : ∀ i j, i < n → j < n → A i = A j → i = j
variable {B g : Nat} {A C : Nat → Nat} {G : Nat → Nat → Sg}
theorem GridZ.chg (k : GridZ w B g n m A C G) (h : Chg w W S) (hs : ∀ b, B ≤ b → ¬ S b) : GridZ W B g n m A C G :=
  ⟨k.base, Nat.lt_of_lt_of_le k.lt h.size, fun i hi => (cell_chg h k.lt (hs _ k.base)).trans (k.top i hi), fun o => (frozen_chg h k.lt (hs _ k.base)).trans (k.ftop o), fun i hi => (k.rows i hi).chg h (hs _ (k.ge i hi)), k.ge, k.ne, k.inj⟩
theorem GridZ.chg2 (k : GridZ w B g n m A C G) (h : Chg w W S) (hg : ¬ S g) (hA : ∀ i, i < n → ¬ S (A i)) : GridZ W B g n m A C G :=
  ⟨k.base, Nat.lt_of_lt_of_le k.lt h.size, fun i hi => (cell_chg h k.lt hg).trans (k.top i hi), fun o => (frozen_chg h k.lt hg).trans (k.ftop o), fun i hi => (k.rows i hi).chg h (hA i hi), k.ge, k.ne, k.inj⟩
theorem GridZ.below (k : GridZ w B g n m A C G) (h : Below w.heap.size w W) : GridZ W B g n m A C G := k.chg (Chg.of_below h (fun _ => False)) (fun _ _ h => h)
theorem GridZ.congr {G' : Nat → Nat → Sg} (k : GridZ w B g n m A C G) (h : ∀ i, i < n → ∀ j, j < m → G i j = G' i j) : GridZ w B g n m A C G' :=
  ⟨k.base, k.lt, k.top, k.ftop, fun i hi => (k.rows i hi).congr (h i hi), k.ge, k.ne, k.inj⟩
/-- One row is written, by whatever leaves all else. -/
theorem GridZ.row (k : GridZ w B g n m A C G) {r : Nat} (hr : r < n) {q : Nat → Sg} (h : Chg w W (fun b => b = A r)) (hq : RowZ W (A r) m q) : GridZ W B g n m A C (fun i => if i = r then q else G i) := by
  refine ⟨k.base, Nat.lt_of_lt_of_le k.lt h.size, fun i hi => (cell_chg h k.lt (fun e => k.ne r hr e.symm)).trans (k.top i hi), fun o => (frozen_chg h k.lt (fun e => k.ne r hr e.symm)).trans (k.ftop o), fun i hi => ?_, k.ge, k.ne, k.inj⟩
  by_cases e : i = r
  · subst e
    simpa using hq
  · simp only [if_neg e]
    exact (k.rows i hi).chg h (fun h2 => e (k.inj i r hi hr h2))
end

def swapZ (G : Nat → Nat → Sg) (i j : Nat) : Nat → Nat → Sg := fun k => if k = i then G j else if k = j then G i else G k
theorem GridZ.swap {W : World} {B g n m i j : Nat} {A C : Nat → Nat} {G : Nat → Nat → Sg} (k : GridZ W B g n m A C G) (hi : i < n) (hj : j < n) :
    GridZ ((W.setCell ⟨g, i, none⟩ (.slice (some ⟨A j, 0, none⟩) m (C j))).setCell ⟨g, j, none⟩ (.slice (some ⟨A i, 0, none⟩) m (C i))) B g n m (sw A i j) (sw C i j) (swapZ G i j) := by
  have hc : Chg W ((W.setCell ⟨g, i, none⟩ (.slice (some ⟨A j, 0, none⟩) m (C j))).setCell ⟨g, j, none⟩ (.slice (some ⟨A i, 0, none⟩) m (C i))) (fun b => b = g) :=
    ((Chg.refl W (fun b => b = g)).setCell (p := ⟨g, i, none⟩) (.inl rfl) _).setCell (p := ⟨g, j, none⟩) (.inl rfl) _
  have hsw : ∀ x, x < n → ∃ y, y < n ∧ sw A i j x = A y ∧ swapZ G i j x = G y ∧ y = (if x = i then j else if x = j then i else x) := by
    intro x hx
    unfold sw swapZ
    split
    · exact ⟨j, hj, rfl, rfl, rfl⟩
    · split
      · exact ⟨i, hi, rfl, rfl, rfl⟩
      · exact ⟨x, hx, rfl, rfl, rfl⟩
  refine ⟨k.base, by simpa using k.lt, fun x hx => ?_, fun o => by rw [World.frozen?_setCell, World.frozen?_setCell]; exact k.ftop o, fun x hx => ?_, fun x hx => ?_, fun x hx => ?_, fun x y hx hy h => ?_⟩
  · have h1 := k.top i hi
    have h2 := k.top j hj
    unfold sw
    by_cases e : x = j
    · subst e
      rw [cell_setn]
      · by_cases e2 : x = i
        · subst e2; simp
        · simp [e2]
      · by_cases e2 : x = i
        · subst e2; rw [cell_setn (by rw [h1]; rfl)]; rfl
        · rw [World.cell?_setCell_other _ _ _ _ (fun h => e2 (by injection h with _ h; exact h.symm)), h2]; rfl
    · rw [World.cell?_setCell_other _ _ _ _ (fun h => e (by injection h with _ h; exact h.symm))]
      by_cases e2 : x = i
      · subst e2
        rw [cell_setn (by rw [h1]; rfl), if_pos rfl, if_pos rfl]
      · rw [World.cell?_setCell_other _ _ _ _ (fun h => e2 (by injection h with _ h; exact h.symm)), if_neg e2, if_neg e, if_neg e2, if_neg e]
        exact k.top x hx
  · obtain ⟨y, hy, h1, h2, _⟩ := hsw x hx
    rw [h1, h2]
    exact (k.rows y hy).chg hc (k.ne y hy)
  · obtain ⟨y, hy, h1, _, _⟩ := hsw x hx
    rw [h1]; exact k.ge y hy
  · obtain ⟨y, hy, h1, _, _⟩ := hsw x hx
    rw [h1]; exact k.ne y hy
  · obtain ⟨x', hx', h1, _, e1⟩ := hsw x hx
    obtain ⟨y', hy', h2, _, e2⟩ := hsw y hy
    rw [h1, h2] at h
    have := k.inj _ _ hx' hy' h
    rw [e1, e2] at this
    by_cases x1 : x = i <;> by_cases x2 : x = j <;> by_cases y1 : y = i <;> by_cases y2 : y = j <;> simp only [x1, x2, y1, y2, if_true, if_false, if_pos, if_neg] at this <;> (try split at this) <;> omega
/-- i rows are done, row i is v. -/
structure PZ (W : World) (B g n m i : Nat) (v : Value) (A C : Nat → Nat) (G : Nat → Nat → Sg) : Prop where
  base : B ≤ g
  lt : g < W.heap.size
  top : ∀ j, j < n → W.cell? ⟨g, j, none⟩ = some (if j < i then .slice (some ⟨A j, 0, none⟩) m (C j) else if j = i then v else .slice none 0 0)
  ftop : ∀ o, W.frozen? ⟨g, o, none⟩ = false
  rows : ∀ j, j < i → RowZ W (A j) m (G j)
  ge : ∀ j, j < i → B ≤ A j
  ne : ∀ j, j < i → A j ≠ g
  inj : ∀ j k, j < i → k < i → A j = A k → j = k
section
variable {w W : World} {B g n m i : Nat} {v : Value} {A C : Nat → Nat} {G : Nat → Nat → Sg} {S : Nat → Prop}
theorem PZ.chg (k : PZ w B g n m i v A C G) (h : Chg w W S) (hg : ¬ S g) (hA : ∀ j, j < i → ¬ S (A j)) : PZ W B g n m i v A C G :=
  ⟨k.base, Nat.lt_of_lt_of_le k.lt h.size, fun j hj => (cell_chg h k.lt hg).trans (k.top j hj), fun o => (frozen_chg h k.lt hg).trans (k.ftop o), fun j hj => (k.rows j hj).chg h (hA j hj), k.ge, k.ne, k.inj⟩
theorem PZ.below (k : PZ w B g n m i v A C G) (h : Below w.heap.size w W) : PZ W B g n m i v A C G := k.chg (Chg.of_below h (fun _ => False)) (fun h => h) (fun _ _ h => h)
theorem PZ.store (k : PZ w B g n m i v A C G) (hi : i < n) (v' : Value) : PZ (w.setCell ⟨g, i, none⟩ v') B g n m i v' A C G := by
  have hc : Chg w (w.setCell ⟨g, i, none⟩ v') (fun b => b = g) := (Chg.refl w (fun b => b = g)).setCell (p := ⟨g, i, none⟩) (.inl rfl) _
  refine ⟨k.base, by simpa using k.lt, fun j hj => ?_, fun o => by rw [World.frozen?_setCell]; exact k.ftop o, fun j hj => (k.rows j hj).chg hc (k.ne j hj), k.ge, k.ne, k.inj⟩
  by_cases e : j = i
  · subst e
    rw [cell_setn (by rw [k.top j hj]; rfl), if_neg (by omega), if_pos rfl]
  · rw [World.cell?_setCell_other _ _ _ _ (fun h => e (by injection h with _ h; exact h.symm)), k.top j hj]
    simp only [if_neg e]
theorem PZ.next {b c bi : Nat} (k : PZ w B g n m i (.slice (some ⟨b, 0, none⟩) m c) A C G) (hr : RowZ w b m (G i)) (hb : bi ≤ b) (hB : B ≤ bi) (hg : g < bi) (hA : ∀ j, j < i → A j < bi) :
    PZ w B g n m (i + 1) (.slice none 0 0) (fun j => if j = i then b else A j) (fun j => if j = i then c else C j) G := by
  refine ⟨k.base, k.lt, fun j hj => ?_, k.ftop, fun j hj => ?_, fun j hj => ?_, fun j hj => ?_, fun x y hx hy h => ?_⟩
  · rw [k.top j hj]
    by_cases e : j = i
    · subst e; simp
    · by_cases e2 : j < i
      · rw [if_pos e2, if_pos (by omega), if_neg e, if_neg e]
      · rw [if_neg e2, if_neg e, if_neg (by omega)]
        simp
  · by_cases e : j = i
    · subst e; simpa using hr
    · simp only [if_neg e]; exact k.rows j (by omega)
  · by_cases e : j = i
    · simp only [if_pos e]; omega
    · simp only [if_neg e]; exact k.ge j (by omega)
  · by_cases e : j = i
    · simp only [if_pos e]; omega
    · simp only [if_neg e]; exact k.ne j (by omega)
  · have hA' := hA
    by_cases e1 : x = i
    · by_cases e2 : y = i
      · omega
      · simp only [if_pos e1, if_neg e2] at h
        have := hA y (by omega)
        omega
    · by_cases e2 : y = i
      · simp only [if_pos e2, if_neg e1] at h
        have := hA x (by omega)
        omega
      · simp only [if_neg e1, if_neg e2] at h
        exact k.inj x y (by omega) (by omega) h
theorem PZ.grid (k : PZ w B g n m n v A C G) : GridZ w B g n m A C G :=
  ⟨k.base, k.lt, fun j hj => by rw [k.top j hj, if_pos hj], k.ftop, k.rows, k.ge, k.ne, k.inj⟩
end
theorem PZ.start (w : World) (n m : Nat) (A C : Nat → Nat) (G : Nat → Nat → Sg) (B : Nat) (hB : B ≤ w.heap.size) : PZ (w.alloc (.cells (madeCells #[.slice none 0 0] n) 63)) B w.heap.size n m 0 (.slice none 0 0) A C G := by
  have h := World.rowIs_made w (.slice none 0 0) n 63
  refine ⟨hB, h.lt, fun j hj => ?_, fun o => h.frozen o, fun j hj => by omega, fun j hj => by omega, fun j hj => by omega, fun j k hj => by omega⟩
  rw [h.cell hj]
  simp

theorem infoZ : (Tryd.prog.info? 68).map (fun i => (i.zero, i.size, i.bytes)) = some (some (.agg #[.bool false, .string ⟨#[]⟩]), 2, 24) := by kernel_rfl
theorem infoRowZ : (Tryd.prog.info? 63).map (fun i => (i.zero, i.size, i.bytes)) = some (some (.slice none 0 0), 1, 24) := by kernel_rfl
theorem mad2_get (z0 z1 : Value) {m i : Nat} (hi : i < m) : (madeCells #[z0, z1] (m * 2))[i * 2]? = some z0 ∧ (madeCells #[z0, z1] (m * 2))[i * 2 + 1]? = some z1 := by
  have h0 : i * 2 < m * 2 := by omega
  have h1 : i * 2 + 1 < m * 2 := by omega
  have m0 : i * 2 % 2 = 0 := by omega
  have m1 : (i * 2 + 1) % 2 = 1 := by omega
  refine ⟨?_, ?_⟩ <;> simp [madeCells, h0, h1, m0, m1]
theorem make_ints (m : Nat) (hm : m ≤ 1000) (w : World) : (Instr.makeSlice 63 (.int .i64 (m : Int)) (.int .i64 (m : Int))).run Tryd.prog w =
    .ok (.slice (some ⟨w.heap.size, 0, none⟩) m m) (w.alloc (.cells (madeCells #[.bool false, .string ⟨#[]⟩] (m * 2)) 68)) := by
  obtain ⟨i, hi, hzz⟩ := Option.map_eq_some_iff.1 infoZ
  simp only [Prod.mk.injEq] at hzz
  obtain ⟨hz, hs, hb⟩ := hzz
  have hr := run_make (P := Tryd.prog) w 63 68 i _ Tryd.underlying63 hi hz .i64 .i64 m m (by omega) (Int.le_refl _) (by rw [hb]; omega) (by omega)
  simp only [Int.toNat_natCast, hs] at hr
  exact hr
theorem made_rowZ (w : World) (m : Nat) : RowZ (w.alloc (.cells (madeCells #[.bool false, .string ⟨#[]⟩] (m * 2)) 68)) w.heap.size m (fun _ => (false, 0)) := by
  refine ⟨by simp, fun i hi => ?_, fun o => ?_⟩
  · obtain ⟨h0, h1⟩ := mad2_get (.bool false) (.string ⟨#[]⟩) hi
    refine ⟨?_, ?_⟩
    · rw [cell_of_row _ w.heap.size (i * 2) _ _ (0, 0) (heap_alloc_new w _)]; exact h0
    · rw [cell_of_row _ w.heap.size (i * 2 + 1) _ _ (0, 0) (heap_alloc_new w _)]; rw [enc_zero]; exact h1
  · exact frozen_of_row _ w.heap.size o _ _ (heap_alloc_new w _)
end Go.Proofs.YtiamgjepcagohaaDoor.P
end
