/- Package linear: reduce. -/
import Derived.Test.YtiamgjepcagohaaDoorClEch
import Derived.BigRegion
namespace Go.Proofs.YtiamgjepcagohaaDoor.P
open Go Go.RowKit Go.Proofs.YtiamgjepcagohaaDoorW.PrintWords Go.Proofs.YtiamgjepcagohaaDoorW.PrintLast Go.Proofs.YtiamgjepcagohaaDoorW.PrintMore Go.Proofs.YtiamgjepcagohaaDoor.Ari

theorem infoInt : (Tryd.prog.info? 3).map (fun i => (i.zero, i.size, i.bytes)) = some (some (.int .i64 0), 1, 8) := by kernel_rfl
abbrev ints (l : List Nat) : List Int := l.map fun (x : Nat) => (x : Int)
/-- The list of pivots: a slice of the call's own, from block b on. -/
abbrev OwnP (W : World) (b : Nat) (v : Value) (l : List Nat) : Prop := W.ownsRow b 3 1 v l.length (nums .i64 (ints l))

theorem own_len {W : World} {b r pc : Nat} {pa : Option Addr} {l : List Nat} (hr : l.length = r) (h : OwnP W b (.slice pa l.length pc) l) : OwnP W b (.slice pa r pc) l := by
  subst hr; exact h
theorem own_set3 {W : World} {b p o : Nat} {v : Value} {l : List Nat} {u0 u1 u2 : Value} (h : OwnP W b v l) (hp : p < b) : OwnP (((W.setCell ⟨p, o, none⟩ u0).setCell ⟨p, o + 1, none⟩ u1).setCell ⟨p, o + 2, none⟩ u2) b v l :=
  ownsRow_setCell_below (a := ⟨p, o + 2, none⟩) (ownsRow_setCell_below (a := ⟨p, o + 1, none⟩) (ownsRow_setCell_below (a := ⟨p, o, none⟩) h hp u0) hp u1) hp u2
theorem own_chg {W W2 : World} {S : Nat → Prop} {b n s : Nat} {t : TypeId} {v : Value} {xs : List Value} (h : W.ownsRow b t s v n xs) (hc : Chg W W2 S) (hs : ∀ k, b ≤ k → ¬ S k) : W2.ownsRow b t s v n xs := by
  refine ⟨h.1, ?_⟩
  rcases h.2 with hn | ⟨g, cap, cur, hv, hg, hb, rest⟩
  · exact .inl hn
  · refine .inr ⟨g, cap, cur, hv, hg, ?_, rest⟩
    rw [hc.block g (Array.getElem?_eq_some_iff.1 hb).1 (hs g hg)]
    exact hb
theorem box_write {V : World} {p : Nat} {a b c : Value} (h : Bx V p a b c) (x y z : Value) : ∃ W2, ((V.setCell ⟨p, 0, none⟩ x).setCell ⟨p, 1, none⟩ y).setCell ⟨p, 2, none⟩ z = W2 ∧ Bx W2 p x y z ∧ Chg V W2 (fun b => b = p) :=
  ⟨_, rfl, h.set _ _ _, chg_set3 (S := fun b => b = p) (o := 0) (Chg.refl _ _) (.inl rfl) _ _ _⟩
theorem chg_of_belowB {b : Nat} {w W : World} (h : Below b w W) : Chg w W (fun k => b ≤ k) := ⟨h.os, h.tape, h.output, h.size, fun k _ hn => h.block k (by omega)⟩
theorem own_n {W : World} {b k : Nat} {v : Value} {l : List Nat} (h : OwnP W b v l) (hk : k = l.length) : W.ownsRow b 3 1 v k (nums .i64 (ints l)) := hk ▸ h
theorem own_snoc {W : World} {b k c : Nat} {v : Value} {l : List Nat} (h : W.ownsRow b 3 1 v k (nums .i64 (ints l ++ [(c : Int)]))) (hk : k = l.length + 1) : OwnP W b v (l ++ [c]) := by
  subst hk
  have e : ints (l ++ [c]) = ints l ++ [(c : Int)] := by simp [ints]
  show W.ownsRow b 3 1 v (l ++ [c]).length (nums .i64 (ints (l ++ [c])))
  rw [e, List.length_append]
  exact h
theorem results_tmp_bx {fn : Func} {p u : Tmp} {tmps : Array Value} {W : World} {g : Nat} {a b c : Value} (h : fn.results = #[.tmp u, .cell p 27]) (hp : tmps.getD p undef = .pointer (some ⟨g, 0, none⟩)) (hb : Bx W g a b c) :
    (results fn tmps).run Tryd.prog W = .ok (.tuple #[tmps.getD u undef, .agg #[a, b, c]]) W := by
  have h1 := hb.load
  have h2 : tmps[p]?.getD undef = .pointer (some ⟨g, 0, none⟩) := by simpa using hp
  simp only [results, h]
  simp [Sem.run_bind, Result.andThen, h2, asAddr, h1]

def sw (f : Nat → Nat) (i j : Nat) : Nat → Nat := fun k => if k = i then f j else if k = j then f i else f k
theorem Grid.swap {W : World} {B g n m i j : Nat} {A C : Nat → Nat} {G : Gr} (k : Grid W B g n m A C G) (hi : i < n) (hj : j < n) :
    Grid ((W.setCell ⟨g, i, none⟩ (.slice (some ⟨A j, 0, none⟩) m (C j))).setCell ⟨g, j, none⟩ (.slice (some ⟨A i, 0, none⟩) m (C i))) B g n m (sw A i j) (sw C i j) (swapR G i j) := by
  have hc : Chg W ((W.setCell ⟨g, i, none⟩ (.slice (some ⟨A j, 0, none⟩) m (C j))).setCell ⟨g, j, none⟩ (.slice (some ⟨A i, 0, none⟩) m (C i))) (fun b => b = g) :=
    ((Chg.refl W (fun b => b = g)).setCell (p := ⟨g, i, none⟩) (.inl rfl) _).setCell (p := ⟨g, j, none⟩) (.inl rfl) _
  have hsw : ∀ x, x < n → ∃ y, y < n ∧ sw A i j x = A y ∧ swapR G i j x = G y ∧ y = (if x = i then j else if x = j then i else x) := by
    intro x hx
    unfold sw swapR
    split
    · exact ⟨j, hj, rfl, rfl, rfl⟩
    · split
      · exact ⟨i, hi, rfl, rfl, rfl⟩
      · exact ⟨x, hx, rfl, rfl, rfl⟩
  refine ⟨k.base, by simpa using k.lt, fun x hx => ?_, fun o => by rw [World.frozen?_setCell, World.frozen?_setCell]; exact k.ftop o, fun x hx => ?_, fun x hx => ?_, fun x hx => ?_, fun x y hx hy h => ?_⟩
  · have h1 := k.top i hi
    have h2 := k.top j hj
    unfold sw
    by_cases e : x = j
    · subst e
      rw [cell_setn]
      · by_cases e2 : x = i
        · subst e2; simp
        · simp [e2]
      · by_cases e2 : x = i
        · subst e2; rw [cell_setn (by rw [h1]; rfl)]; rfl
        · rw [World.cell?_setCell_other _ _ _ _ (fun h => e2 (by injection h with _ h; exact h.symm)), h2]; rfl
    · rw [World.cell?_setCell_other _ _ _ _ (fun h => e (by injection h with _ h; exact h.symm))]
      by_cases e2 : x = i
      · subst e2
        rw [cell_setn (by rw [h1]; rfl), if_pos rfl, if_pos rfl]
      · rw [World.cell?_setCell_other _ _ _ _ (fun h => e2 (by injection h with _ h; exact h.symm)), if_neg e2, if_neg e, if_neg e2, if_neg e]
        exact k.top x hx
  · obtain ⟨y, hy, h1, h2, _⟩ := hsw x hx
    rw [h1, h2]
    exact (k.rows y hy).chg hc (k.ne y hy)
  · obtain ⟨y, hy, h1, _, _⟩ := hsw x hx
    rw [h1]; exact k.ge y hy
  · obtain ⟨y, hy, h1, _, _⟩ := hsw x hx
    rw [h1]; exact k.ne y hy
  · obtain ⟨x', hx', h1, _, e1⟩ := hsw x hx
    obtain ⟨y', hy', h2, _, e2⟩ := hsw y hy
    rw [h1, h2] at h
    have := k.inj _ _ hx' hy' h
    rw [e1, e2] at this
    by_cases x1 : x = i <;> by_cases x2 : x = j <;> by_cases y1 : y = i <;> by_cases y2 : y = j <;> simp only [x1, x2, y1, y2, if_true, if_false, if_pos, if_neg] at this <;> (try split at this) <;> omega
theorem sw_lt {f : Nat → Nat} {i j n b : Nat} (h : ∀ x, x < n → f x < b) (hi : i < n) (hj : j < n) : ∀ x, x < n → sw f i j x < b := by
  intro x hx
  unfold sw
  split
  · exact h _ hj
  · split
    · exact h _ hi
    · exact h _ hx
set_option maxHeartbeats 2000000 in
set_option maxRecDepth 1000000 in
theorem reduce_c {w0 w : World} {g n m cap cols K R : Nat} {A C : Nat → Nat} {G : Gr} {OUT : St} (hB : Below w0.heap.size w0 w) (hG : Grid w w0.heap.size g n m A C G)
    (hI : RInv n m cols 0 R K ⟨G, [], 1⟩ OUT) (hn : n ≤ 1000) (hm : m ≤ 1000) :
    Calls Tryd.prog 31 #[.slice (some ⟨g, 0, none⟩) n cap, .int .i64 cols] w fun e w' => ∃ v A' C', e = .returned (.tuple #[v, rv OUT.pr]) ∧ Below w0.heap.size w0 w' ∧ Grid w' w0.heap.size g n m A' C' OUT.G ∧ OwnP w' w.heap.size v OUT.piv := by
  have H0 := Aside0.mk hB
  have HG := Aside0.mk hG
  have HI := Aside0.mk hI
  obtain ⟨W, hW, HX, hbW⟩ := box1 w (.bool false) (.string ⟨#[]⟩) (.string ⟨#[]⟩) 27
  have HE := Aside0.mk hW
  have HW : Aside0 (Below w.heap.size w W) := ⟨hbW⟩
  obtain ⟨one, hone⟩ : ∃ q : Rat, ((1 : Int) : Rat) = q := ⟨_, rfl⟩
  have hone2 : (1 : Rat) = one := hone
  have HInt : Aside0 (∀ U V : World, Below U.heap.size U V → Calls Tryd.prog 32 #[.int .i64 1] V fun e w' => e = .returned (rv one) ∧ Below U.heap.size U w') := ⟨fun U V h => hone ▸ Int_c h (by omega) (by omega)⟩
  rw [hone2] at hI
  replace hI := Aside0.mk hI
  clear hB hG HI hW hbW hone hone2
  go_enter Tryd.func31, Tryd.ntmps31
  go_upto_region 1 with (fail)
  rw [HE.out]
  go_upto_region 3 with (go_at_call 32; (with_reducible refine (HInt.out _ _ (Below.refl _ _)).mono ?_); rintro e w1 ⟨rfl, hV⟩; have HV := Aside0.mk hV; clear hV)
  obtain ⟨W3, hW3, HP, hb3⟩ := box1 w1 (.bool (ngv one)) (.string (enc one.num.natAbs)) (.string (encD one.den)) 27
  rw [hW3]
  have HGL : Aside0 (g < w.heap.size ∧ ∀ i, i < n → A i < w.heap.size) := ⟨HG.out.lt, fun i hi => (HG.out.rows i hi).lt⟩
  have HS0 : Aside0 (w.heap.size < w1.heap.size) := ⟨Nat.lt_of_lt_of_le HX.out.lt HV.out.size⟩
  replace HG := Aside0.mk ((HG.out.below HW.out).below (below_step HV.out hb3))
  replace HX := Aside0.mk (HX.out.below (below_step HV.out hb3))
  have H3 := Aside0.mk (below_step (below_step (below_step H0.out HW.out) HV.out) hb3)
  have HS : Aside0 (w.heap.size < w1.heap.size ∧ w1.heap.size < W3.heap.size) := ⟨HS0.out, HP.out.lt⟩
  obtain ⟨p7, hp7⟩ : ∃ x, w1.heap.size = x := ⟨_, rfl⟩
  obtain ⟨b3, hb3⟩ : ∃ x, W3.heap.size = x := ⟨_, rfl⟩
  rw [hp7] at HP HS ⊢
  rw [hb3] at HS
  have HO : Aside0 (OwnP W3 b3 (.slice none 0 0) []) := ⟨own_nil _ _ _ _⟩
  have HB3 : Aside0 (b3 ≤ W3.heap.size) := ⟨Nat.le_of_eq hb3.symm⟩
  clear hp7 hb3
  go_wp2
  go_loopw [6, 8] (fun v6 v8 wr => ∃ (c K : Nat) (S : St) (A C : Nat → Nat), v8 = .int .i64 c ∧ c ≤ 1000 ∧ Aside0 (RInv n m cols c R K S OUT) ∧ Aside0 (Grid wr w0.heap.size g n m A C S.G) ∧ Aside0 (g < w.heap.size ∧ ∀ i, i < n → A i < w.heap.size) ∧ Aside0 (OwnP wr b3 v6 S.piv) ∧ Aside0 (Bx wr p7 (.bool (ngv S.pr)) (.string (enc S.pr.num.natAbs)) (.string (encD S.pr.den))) ∧ Aside0 (Bx wr w.heap.size (.bool false) (.string ⟨#[]⟩) (.string ⟨#[]⟩)) ∧ Aside0 (Below w0.heap.size w0 wr) ∧ Aside0 (b3 ≤ wr.heap.size)) (fun _ v8 _ => cols - (intOf v8).toNat)
  case atStart => exact ⟨0, K, ⟨G, [], one⟩, A, C, rfl, by omega, hI, HG, HGL, HO, HP, HX, H3, HB3⟩
  case round =>
    clear hI HG HGL HO HP HX H3 HB3
    obtain ⟨c, K', S, A', C', rfl, hc1000, HI, HG, HGL, HO, HP, HX, H3, HB3⟩ := hrel
    obtain ⟨pa, pc, rfl⟩ := own_slice HO.out
    obtain ⟨r, hr⟩ : ∃ r, S.piv.length = r := ⟨_, rfl⟩
    have HR := Aside0.mk hr
    rw [hr]
    by_cases hcc : c < cols
    · by_cases hl : r < n
      · obtain ⟨out, ho⟩ : ∃ x, pvf S.G c (n - r) r = x := ⟨_, rfl⟩
        have HPV := Aside0.mk ho
        clear ho
        have hcm : c < m := Nat.lt_of_lt_of_le hcc HI.out.cm
        have HCM := Aside0.mk hcm
        go_upto_region 8 with (go_at_call 54; (with_reducible refine (pivot_c (Below.refl _ _) HG.out (Nat.le_of_lt hl) HCM.out hn hm).mono ?_); rintro e w1 ⟨rfl, hV⟩; replace HG := Aside0.mk (HG.out.below hV); replace HO := Aside0.mk (pw_own_below HO.out hV); replace HP := Aside0.mk (HP.out.below hV); replace HX := Aside0.mk (HX.out.below hV); replace H3 := Aside0.mk (below_step H3.out hV); replace HB3 := Aside0.mk (Nat.le_trans HB3.out hV.size); clear hV; rw [HPV.out])
        cases out with
        | none =>
          simp only [pvI]
          go_wp2
          refine ⟨⟨c + 1, K', S, A', C', rfl, by have := HCM.out; omega, ⟨HI.out.skip hcc (by rw [HR.out]; exact hl) (by rw [HR.out]; exact HPV.out)⟩, HG, HGL, ⟨own_len HR.out HO.out⟩, HP, HX, H3, HB3⟩, ?_⟩
          simp [intOf]; omega
        | some at_ =>
          simp only [pvI]
          have ha := pvf_some HPV.out
          have HA := Aside0.mk ha
          obtain ⟨hr1, hat, hnz⟩ := ha
          replace hat : at_ < n := by omega
          clear hnz
          have HST := Aside0.mk (HI.out.step hcc (by rw [HR.out]; exact hl) (by rw [HR.out]; exact HPV.out))
          go_upto_if 37 with (fail)
          go_cut [10] (fun v10 wc => v10 = .int .i64 at_ ∧ ∃ A1 C1, Aside0 (Grid wc w0.heap.size g n m A1 C1 (swapR S.G at_ r)) ∧ Aside0 (g < w.heap.size ∧ ∀ i, i < n → A1 i < w.heap.size) ∧ Aside0 (OwnP wc b3 (.slice pa r pc) S.piv) ∧ Aside0 (∃ q, q = (if at_ = r then S.pr else -S.pr) ∧ Bx wc p7 (.bool (ngv q)) (.string (enc q.num.natAbs)) (.string (encD q.den))) ∧ Aside0 (Bx wc w.heap.size (.bool false) (.string ⟨#[]⟩) (.string ⟨#[]⟩)) ∧ Aside0 (Below w0.heap.size w0 wc) ∧ Aside0 (b3 ≤ wc.heap.size))
          case first =>
            by_cases he : at_ = r
            · have he2 : (at_ : Int) = (r : Int) := by omega
              have HE2 := Aside0.mk he
              clear he
              go_wp2
              go_meet
              refine ⟨by simp [HE2.out], A', C', ⟨by rw [HE2.out, swap_self]; exact HG.out⟩, HGL, ⟨own_len HR.out HO.out⟩, ⟨_, rfl, by rw [if_pos HE2.out]; exact HP.out⟩, HX, H3, HB3⟩
            · have he2 : ((at_ : Int) == (r : Int)) = false := by simp; omega
              have HE2 := Aside0.mk he
              clear he
              go_upto_region 10 with (fail)
              have t1 := HG.out.top r hl
              have t2 := HG.out.top at_ hat
              have t3 := HG.out.ftop r
              have t4 := HG.out.ftop at_
              have t5 : ∀ v, (w1.setCell ⟨g, at_, none⟩ v).cell? ⟨g, r, none⟩ = some (.slice (some ⟨A' r, 0, none⟩) m (C' r)) := fun v => (World.cell?_setCell_other _ _ _ _ (fun h => HE2.out (by injection h))).trans t1
              go_region
              clear t1 t2 t3 t4 t5
              obtain ⟨w2, hw2⟩ : ∃ w2, ((w1.setCell ⟨g, at_, none⟩ (.slice (some ⟨A' r, 0, none⟩) m (C' r))).setCell ⟨g, r, none⟩ (.slice (some ⟨A' at_, 0, none⟩) m (C' at_))).drew = w2 := ⟨_, rfl⟩
              rw [hw2]
              have hc2 : Chg w1 w2 (fun b => b = g) := hw2 ▸ (((Chg.refl w1 (fun b => b = g)).setCell (p := ⟨g, at_, none⟩) (.inl rfl) _).setCell (p := ⟨g, r, none⟩) (.inl rfl) _).drew
              replace HG := Aside0.mk (hw2 ▸ (HG.out.swap hat hl).below (below_drew1 (Below.refl _ _)))
              replace HP := Aside0.mk (HP.out.chg hc2 (fun e => by have := HGL.out.1; have := HS.out.1; omega))
              replace HX := Aside0.mk (HX.out.chg hc2 (fun e => by have := HGL.out.1; omega))
              replace HO := Aside0.mk (own_chg HO.out hc2 (fun k hk e => by have := HGL.out.1; have := HS.out; omega))
              replace H3 := Aside0.mk (hc2.out H3.out (fun k hk => by rw [hk]; exact HG.out.base))
              replace HB3 := Aside0.mk (Nat.le_trans HB3.out hc2.size)
              replace HGL : Aside0 (g < w.heap.size ∧ ∀ i, i < n → sw A' at_ r i < w.heap.size) := ⟨HGL.out.1, sw_lt HGL.out.2 hat hl⟩
              clear hw2 hc2
              have kx := (HP.out); have kp0 := kx.c0; have kp1 := kx.c1; have kp2 := kx.c2; have fp0 := kx.f0; have fp1 := kx.f1; have fp2 := kx.f2; clear kx
              obtain ⟨np, hnp⟩ : ∃ x, -S.pr = x := ⟨_, rfl⟩
              have HN : Aside0 (∀ U V : World, Below U.heap.size U V → Calls Tryd.prog 16 #[rv S.pr] V fun e w' => e = .returned (rv np) ∧ Below U.heap.size U w') := ⟨fun U V h => hnp ▸ Negate_v h HI.out.pr HI.out.small⟩
              have HNP := Aside0.mk hnp
              clear hnp
              go_wp2_with (go_at_call 16; (with_reducible refine (HN.out _ _ (Below.refl _ _)).mono ?_); rintro e w1 ⟨rfl, hV⟩; replace HG := Aside0.mk (HG.out.below hV); replace HO := Aside0.mk (pw_own_below HO.out hV); replace HP := Aside0.mk (HP.out.below hV); replace HX := Aside0.mk (HX.out.below hV); replace H3 := Aside0.mk (below_step H3.out hV); replace HB3 := Aside0.mk (Nat.le_trans HB3.out hV.size); clear hV kp0 kp1 kp2 fp0 fp1 fp2; have kx := (HP.out); have kp0 := kx.c0; have kp1 := kx.c1; have kp2 := kx.c2; have fp0 := kx.f0; have fp1 := kx.f1; have fp2 := kx.f2; clear kx)
              clear kp0 kp1 kp2 fp0 fp1 fp2
              obtain ⟨w4, hw4, hbx, hc⟩ := box_write HP.out (.bool (ngv np)) (.string (enc np.num.natAbs)) (.string (encD np.den))
              replace HP := Aside0.mk hbx
              go_meet
              rw [hw4]
              replace HG := Aside0.mk (HG.out.chg2 hc (fun e => by have := HGL.out.1; have := HS.out; omega) (fun i hi e => by have := HGL.out.2 i hi; have := HS.out; omega)); replace HX := Aside0.mk (HX.out.chg hc (fun e => by have := HS.out; omega)); replace HO := Aside0.mk (own_chg HO.out hc (fun k hk e => by have := HS.out; omega)); replace H3 := Aside0.mk (hc.out H3.out (fun k hk => by rw [hk]; have := HS.out; have := H0.out.size; omega)); replace HB3 := Aside0.mk (Nat.le_trans HB3.out hc.size)
              exact ⟨rfl, _, _, HG, HGL, ⟨own_len HR.out HO.out⟩, ⟨_, by rw [if_neg HE2.out, HNP.out], HP.out⟩, HX, H3, HB3⟩
          case rest =>
            clear HG HGL HO HP HX H3 HB3
            obtain ⟨rfl, A1, C1, HG, HGL, HO, HPq, HX, H3, HB3⟩ := hcut
            obtain ⟨q1, hq1, hp1⟩ := HPq.out
            have HP := Aside0.mk hp1
            have HQ1 := Aside0.mk hq1
            clear HPq hq1 hp1
            obtain ⟨G1, hG1⟩ : ∃ G1, swapR S.G at_ r = G1 := ⟨_, rfl⟩
            rw [hG1] at HG
            have HG1 := Aside0.mk hG1
            clear hG1
            have t1 := HG.out.top r hl
            have t2 := (HG.out.rows r hl).el c HCM.out
            obtain ⟨ld, hld⟩ : ∃ q, G1 r c = q := ⟨_, rfl⟩
            have HLD := Aside0.mk hld
            rw [hld] at t2
            have t20 := t2.c0
            have t21 := t2.c1
            have t22 := t2.c2
            clear t2 hld
            go_upto_region 13 with (fail)
            clear t1 t20 t21 t22
            obtain ⟨p11, hp11⟩ : ∃ x, wc.heap.size = x := ⟨_, rfl⟩
            obtain ⟨w5, hw5, HLb, hb5⟩ := box1 wc (.bool (ngv ld)) (.string (enc ld.num.natAbs)) (.string (encD ld.den)) 27
            rw [hw5]
            clear hw5
            have hV := hb5
            have HB0 := HB3
            replace HG := Aside0.mk (HG.out.below hV); replace HO := Aside0.mk (pw_own_below HO.out hV); replace HP := Aside0.mk (HP.out.below hV); replace HX := Aside0.mk (HX.out.below hV); replace H3 := Aside0.mk (below_step H3.out hV); replace HB3 := Aside0.mk (Nat.le_trans HB3.out hV.size)
            rw [hp11] at HLb ⊢
            have HS11 : Aside0 (b3 ≤ p11 ∧ p11 ≠ p7) := ⟨by have := HB0.out; have := HS.out; omega⟩
            clear hb5 hV hp11
            -- the product
            have HF := Aside0.mk HST.out.2
            have hat2 : ld = S.G at_ c := by rw [← HLD.out, ← HG1.out, swap_at]
            have FL : Aside0 (Fit K' ld) := ⟨by rw [hat2]; exact HI.out.ent _ hat _ hcm⟩
            have hld0 : ld ≠ 0 := by rw [hat2]; exact HA.out.2.2
            have HLD0 := Aside0.mk (And.intro hat2 hld0)
            have FQ : Fit K' q1 := by
              rw [HQ1.out]
              split
              · exact HI.out.pr
              · exact HI.out.pr.neg
            obtain ⟨q2, hq2⟩ : ∃ x, q1 * ld = x := ⟨_, rfl⟩
            have HQ2 := Aside0.mk hq2
            have HM : Aside0 (∀ U V : World, Below U.heap.size U V → Calls Tryd.prog 10 #[rv q1, rv ld] V fun e w' => e = .returned (rv q2) ∧ Below U.heap.size U w') := ⟨fun U V h => hq2 ▸ Multiply_v h FQ FL.out (by have := HF.out; omega)⟩
            clear hat2 hld0 FQ hq2
            have kx := (HP.out); have kp0 := kx.c0; have kp1 := kx.c1; have kp2 := kx.c2; have fp0 := kx.f0; have fp1 := kx.f1; have fp2 := kx.f2; clear kx
            have kx := (HLb.out); have kl0 := kx.c0; have kl1 := kx.c1; have kl2 := kx.c2; have fl0 := kx.f0; have fl1 := kx.f1; have fl2 := kx.f2; clear kx
            go_upto_region 14 with (go_at_call 10; (with_reducible refine (HM.out _ _ (Below.refl _ _)).mono ?_); rintro e w1 ⟨rfl, hV⟩; replace HG := Aside0.mk (HG.out.below hV); replace HO := Aside0.mk (pw_own_below HO.out hV); replace HP := Aside0.mk (HP.out.below hV); replace HX := Aside0.mk (HX.out.below hV); replace H3 := Aside0.mk (below_step H3.out hV); replace HB3 := Aside0.mk (Nat.le_trans HB3.out hV.size); replace HLb := Aside0.mk (HLb.out.below hV); clear hV kp0 kp1 kp2 fp0 fp1 fp2 kl0 kl1 kl2 fl0 fl1 fl2; have kx := (HP.out); have kp0 := kx.c0; have kp1 := kx.c1; have kp2 := kx.c2; have fp0 := kx.f0; have fp1 := kx.f1; have fp2 := kx.f2; clear kx)
            clear kp0 kp1 kp2 fp0 fp1 fp2
            obtain ⟨w6, hw6, hbx, hc⟩ := box_write HP.out (.bool (ngv q2)) (.string (enc q2.num.natAbs)) (.string (encD q2.den))
            replace HP := Aside0.mk hbx
            rw [hw6]
            replace HLb := Aside0.mk (HLb.out.chg hc (fun e => HS11.out.2 e))
            replace HG := Aside0.mk (HG.out.chg2 hc (fun e => by have := HGL.out.1; have := HS.out; omega) (fun i hi e => by have := HGL.out.2 i hi; have := HS.out; omega)); replace HX := Aside0.mk (HX.out.chg hc (fun e => by have := HS.out; omega)); replace HO := Aside0.mk (own_chg HO.out hc (fun k hk e => by have := HS.out; omega)); replace H3 := Aside0.mk (hc.out H3.out (fun k hk => by rw [hk]; have := HS.out; have := H0.out.size; omega)); replace HB3 := Aside0.mk (Nat.le_trans HB3.out hc.size)
            clear hbx hc hw6 HM
            -- the row of the pivot
            have t1 := HG.out.top r hl
            go_wp2
            clear t1
            go_loopw [69] (fun v69 wr => ∃ k : Nat, k ≤ m ∧ v69 = .int .i64 k ∧ Aside0 (Grid wr w0.heap.size g n m A1 C1 (fun i j => if i = r then (if j < k then G1 r j / ld else G1 r j) else G1 i j)) ∧ Aside0 (OwnP wr b3 (.slice pa r pc) S.piv) ∧ Aside0 (Bx wr p7 (.bool (ngv q2)) (.string (enc q2.num.natAbs)) (.string (encD q2.den))) ∧ Aside0 (Bx wr p11 (.bool (ngv ld)) (.string (enc ld.num.natAbs)) (.string (encD ld.den))) ∧ Aside0 (Bx wr w.heap.size (.bool false) (.string ⟨#[]⟩) (.string ⟨#[]⟩)) ∧ Aside0 (Below w0.heap.size w0 wr) ∧ Aside0 (b3 ≤ wr.heap.size)) (fun v69 _ => m - (intOf v69).toNat)
            case atStart => exact ⟨0, by omega, rfl, ⟨HG.out.congr (fun i hi j hj => by split; (rename_i h; rw [if_neg (by omega), h]); rfl)⟩, HO, HP, HLb, HX, H3, HB3⟩
            case round =>
              clear HG HO HP HLb HX H3 HB3
              obtain ⟨k, hk, rfl, HG, HO, HP, HLb, HX, H3, HB3⟩ := hrel
              by_cases hkm : k < m
              ·
                have E1 := Aside0.mk ((HG.out.rows r hl).el k hkm)
                simp only [if_true, Nat.lt_irrefl, if_false] at E1
                have FE : Fit K' (G1 r k) := by
                  rw [← HG1.out, swap_at]; exact HI.out.ent _ hat _ hkm
                obtain ⟨x, hx⟩ : ∃ x, G1 r k = x := ⟨_, rfl⟩
                obtain ⟨y, hy⟩ : ∃ y, x / ld = y := ⟨_, rfl⟩
                rw [hx] at FE E1
                have HXY := Aside0.mk (And.intro hx hy)
                have HDv : Aside0 (∀ U V : World, Below U.heap.size U V → Calls Tryd.prog 55 #[rv x, rv ld] V fun e w' => e = .returned (.tuple #[rv y, .bool true]) ∧ Below U.heap.size U w') := ⟨fun U V h => hy ▸ Divide_v h FE FL.out (by have := HF.out; omega) HLD0.out.2⟩
                clear hx hy FE
                go_upto_region 17 with (fail)
                have t1 : wr.cell? ⟨g, r, none⟩ = some (.slice (some ⟨A1 r, 0, none⟩) m (C1 r)) := HG.out.top r hl
                have ee := (E1.out); have ea0 := ee.c0; have ea1 := ee.c1; have ea2 := ee.c2; clear ee; have eb0 := (HG.out.rows r hl).fr (k * 3); have eb1 := (HG.out.rows r hl).fr (k * 3 + 1); have eb2 := (HG.out.rows r hl).fr (k * 3 + 2)
                have kl := HLb.out
                have kl0 := kl.c0
                have kl1 := kl.c1
                have kl2 := kl.c2
                clear kl
                have hne1 : g ≠ A1 r := fun e => HG.out.ne r hl e.symm
                have hne2 : p11 ≠ A1 r := fun e => by have := HGL.out.2 r hl; have := HS.out; have := HS11.out; omega
                refine wp_region_held_drew (S := (fun w' => w'.cell? ⟨g, r, none⟩ = some (.slice (some ⟨A1 r, 0, none⟩) m (C1 r)) ∧ w'.cell? ⟨p11, 0, none⟩ = some (.bool (ngv ld)) ∧ w'.cell? ⟨p11, 1, none⟩ = some (.string (enc ld.num.natAbs)) ∧ w'.cell? ⟨p11, 2, none⟩ = some (.string (encD ld.den)))) (by kernel_rfl) (show _ ∧ _ ∧ _ ∧ _ from ⟨t1, kl0, kl1, kl2⟩) (fun hHeld => ?_)
                (refine wpAnyH_take (i := 0) (v := ?_) rfl (by kernel_rfl) (by kernel_rfl) (by kernel_rfl) (fun _ _ _ h => h) (Or.inl ⟨by rfl, ?_⟩) (by assumption) ?_); rotate_left; (focus (intro w' hSw; (try dsimp only at hSw); go_simp; (try with_reducible rfl))); (try simp only [Act.put, List.setIfInBounds_toArray, List.set_cons_zero, List.set_cons_succ])
                (refine wpAnyH_take (i := 1) (v := ?_) rfl (by kernel_rfl) (by kernel_rfl) (by kernel_rfl) (fun _ _ _ h => h) (Or.inl ⟨by rfl, ?_⟩) (by assumption) ?_); rotate_left; (focus (intro w' hSw; (try dsimp only at hSw); go_simp; (try with_reducible rfl))); (try simp only [Act.put, List.setIfInBounds_toArray, List.set_cons_zero, List.set_cons_succ])
                (refine wpAnyH_take (i := 2) (v := ?_) rfl (by kernel_rfl) (by kernel_rfl) (by kernel_rfl) (fun _ _ _ h => h) (Or.inl ⟨by rfl, ?_⟩) (by assumption) ?_); rotate_left; (focus (intro w' hSw; (try dsimp only at hSw); go_simp; (try with_reducible rfl))); (try simp only [Act.put, List.setIfInBounds_toArray, List.set_cons_zero, List.set_cons_succ])
                (refine wpAnyH_take (i := 3) (v := ?_) rfl (by kernel_rfl) (by kernel_rfl) (by kernel_rfl) (fun _ _ _ h => h) (Or.inl ⟨by rfl, ?_⟩) (by assumption) ?_); rotate_left; (focus (intro w' hSw; (try dsimp only at hSw); go_simp; (try with_reducible rfl))); (try simp only [Act.put, List.setIfInBounds_toArray, List.set_cons_zero, List.set_cons_succ])
                (refine wpAnyH_take (i := 4) (v := ?_) rfl (by kernel_rfl) (by kernel_rfl) (by kernel_rfl) (fun _ _ _ h => h) (Or.inl ⟨by rfl, ?_⟩) (by assumption) ?_); rotate_left; (focus (intro w' hSw; (try dsimp only at hSw); go_simp; (try with_reducible rfl))); (try simp only [Act.put, List.setIfInBounds_toArray, List.set_cons_zero, List.set_cons_succ])
                (refine wpAnyH_take (i := 5) (v := ?_) rfl (by kernel_rfl) (by kernel_rfl) (by kernel_rfl) (fun _ _ _ h => h) (Or.inl ⟨by rfl, ?_⟩) (by assumption) ?_); rotate_left; (focus (intro w' hSw; (try dsimp only at hSw); go_simp; (try with_reducible rfl))); (try simp only [Act.put, List.setIfInBounds_toArray, List.set_cons_zero, List.set_cons_succ])
                (refine wpAnyH_take (i := 6) (v := ?_) rfl (by kernel_rfl) (by kernel_rfl) (by kernel_rfl) (fun _ _ _ h => h) (Or.inl ⟨by rfl, ?_⟩) (by assumption) ?_); rotate_left; (focus (intro w' hSw; (try dsimp only at hSw); go_simp; (try with_reducible rfl))); (try simp only [Act.put, List.setIfInBounds_toArray, List.set_cons_zero, List.set_cons_succ])
                (refine wpAnyH_take (i := 7) (v := ?_) rfl (by kernel_rfl) (by kernel_rfl) (by kernel_rfl) (fun _ _ _ h => h) (Or.inl ⟨by rfl, ?_⟩) (by assumption) ?_); rotate_left; (focus (intro w' hSw; (try dsimp only at hSw); go_simp; (try with_reducible rfl))); (try simp only [Act.put, List.setIfInBounds_toArray, List.set_cons_zero, List.set_cons_succ])
                (refine wpAnyH_take (i := 8) (v := ?_) rfl (by kernel_rfl) (by kernel_rfl) (by kernel_rfl) (fun _ _ _ h => h) (Or.inl ⟨by rfl, ?_⟩) (by assumption) ?_); rotate_left; (focus (intro w' hSw; (try dsimp only at hSw); go_simp; (try with_reducible rfl))); (try simp only [Act.put, List.setIfInBounds_toArray, List.set_cons_zero, List.set_cons_succ])
                (refine wpAnyH_take (i := 9) (v := ?_) rfl (by kernel_rfl) (by kernel_rfl) (by kernel_rfl) (fun _ _ _ h => h) (Or.inl ⟨by rfl, ?_⟩) (by assumption) ?_); rotate_left; (focus (intro w' hSw; (try dsimp only at hSw); go_simp; (try with_reducible rfl))); (try simp only [Act.put, List.setIfInBounds_toArray, List.set_cons_zero, List.set_cons_succ])
                (refine wpAnyH_take (i := 10) (v := ?_) rfl (by kernel_rfl) (by kernel_rfl) (by kernel_rfl) (fun _ _ _ h => h) (Or.inl ⟨by rfl, ?_⟩) (by assumption) ?_); rotate_left; (focus (intro w' hSw; (try dsimp only at hSw); go_simp; (try with_reducible rfl))); (try simp only [Act.put, List.setIfInBounds_toArray, List.set_cons_zero, List.set_cons_succ])
                (refine wpAnyH_take (i := 12) (v := ?_) rfl (by kernel_rfl) (by kernel_rfl) (by kernel_rfl) (fun _ _ _ h => h) (Or.inl ⟨by rfl, ?_⟩) (by assumption) ?_); rotate_left; (focus (intro w' hSw; (try dsimp only at hSw); go_simp; (try with_reducible rfl))); (try simp only [Act.put, List.setIfInBounds_toArray, List.set_cons_zero, List.set_cons_succ])
                (refine wpAnyH_ready (rs := [11]) (by kernel_rfl) (by simp) ?_); (refine AllReadyH.cons rfl (fun K hK => ?_) AllReadyH.nil)
                go_simp
                (refine hK.out _ _ ?_ (fun hHeld => ?_)); (focus ((try dsimp only); go_keep)); (clear hK K); (try simp only [Act.put, List.setIfInBounds_toArray, List.set_cons_zero, List.set_cons_succ])
                (refine wpAnyH_ready (rs := [13]) (by kernel_rfl) (by simp) ?_); (refine AllReadyH.cons rfl (fun K hK => ?_) AllReadyH.nil)
                go_simp
                (go_at_call 55; (with_reducible refine (HDv.out _ _ (Below.refl _ _)).mono ?_); rintro e w1 ⟨rfl, hV⟩; replace hV := below_step (below_drew1 (Below.refl _ _)) hV; clear t1 ea0 ea1 ea2 eb0 eb1 eb2 kl0 kl1 kl2; replace HG := Aside0.mk (HG.out.below hV); replace HO := Aside0.mk (pw_own_below HO.out hV); replace HP := Aside0.mk (HP.out.below hV); replace HX := Aside0.mk (HX.out.below hV); replace H3 := Aside0.mk (below_step H3.out hV); replace HB3 := Aside0.mk (Nat.le_trans HB3.out hV.size); replace HLb := Aside0.mk (HLb.out.below hV); replace E1 := Aside0.mk (E1.out.below hV); have t1 := HG.out.top r hl; have ee := (E1.out); have ea0 := ee.c0; have ea1 := ee.c1; have ea2 := ee.c2; clear ee; have eb0 := (HG.out.rows r hl).fr (k * 3); have eb1 := (HG.out.rows r hl).fr (k * 3 + 1); have eb2 := (HG.out.rows r hl).fr (k * 3 + 2); have kl := HLb.out; have kl0 := kl.c0; have kl1 := kl.c1; have kl2 := kl.c2; clear kl hV)
                go_wp2
                (refine hK.out _ _ ?_ (fun hHeld => ?_)); (focus ((try dsimp only); go_keep)); (clear hK K); (try simp only [Act.put, List.setIfInBounds_toArray, List.set_cons_zero, List.set_cons_succ])
                (refine wpAnyH_take (i := 14) (v := ?_) rfl (by kernel_rfl) (by kernel_rfl) (by kernel_rfl) (fun _ _ _ h => h) (Or.inl ⟨by rfl, ?_⟩) (by assumption) ?_); rotate_left; (focus (intro w' hSw; (try dsimp only at hSw); go_simp; (try with_reducible rfl))); (try simp only [Act.put, List.setIfInBounds_toArray, List.set_cons_zero, List.set_cons_succ])
                (refine wpAnyH_take (i := 15) (v := ?_) rfl (by kernel_rfl) (by kernel_rfl) (by kernel_rfl) (fun _ _ _ h => h) (Or.inl ⟨by rfl, ?_⟩) (by assumption) ?_); rotate_left; (focus (intro w' hSw; (try dsimp only at hSw); go_simp; (try with_reducible rfl))); (try simp only [Act.put, List.setIfInBounds_toArray, List.set_cons_zero, List.set_cons_succ])
                (refine wpAnyH_take (i := 16) (v := ?_) rfl (by kernel_rfl) (by kernel_rfl) (by kernel_rfl) (fun _ _ _ h => h) (Or.inl ⟨by rfl, ?_⟩) (by assumption) ?_); rotate_left; (focus (intro w' hSw; (try dsimp only at hSw); go_simp; (try with_reducible rfl))); (try simp only [Act.put, List.setIfInBounds_toArray, List.set_cons_zero, List.set_cons_succ])
                (refine wpAnyH_take (i := 17) (v := ?_) rfl (by kernel_rfl) (by kernel_rfl) (by kernel_rfl) (fun _ _ _ h => h) (Or.inl ⟨by rfl, ?_⟩) (by assumption) ?_); rotate_left; (focus (intro w' hSw; (try dsimp only at hSw); go_simp; (try with_reducible rfl))); (try simp only [Act.put, List.setIfInBounds_toArray, List.set_cons_zero, List.set_cons_succ])
                (refine wpAnyH_ready (rs := [18]) (by kernel_rfl) (by simp) ?_); (refine AllReadyH.cons rfl (fun K hK => ?_) AllReadyH.nil)
                go_simp
                (refine hK.out _ _ ?_ (fun hHeld => ?_)); (focus ((try dsimp only); exact ⟨(set3_other (.inl hne1)).trans t1, (set3_other (.inl hne2)).trans kl0, (set3_other (.inl hne2)).trans kl1, (set3_other (.inl hne2)).trans kl2⟩)); (clear hK K); (try simp only [Act.put, List.setIfInBounds_toArray, List.set_cons_zero, List.set_cons_succ])
                refine wpAnyH_done (by kernel_rfl) ?_ _
                have hc : Chg w1 (((w1.setCell ⟨A1 r, k * 3, none⟩ (.bool (ngv y))).setCell ⟨A1 r, k * 3 + 1, none⟩ (.string (enc y.num.natAbs))).setCell ⟨A1 r, k * 3 + 2, none⟩ (.string (encD y.den))) (fun b => b = A1 r) := chg_set3 (S := fun b => b = A1 r) (Chg.refl _ _) (.inl rfl) _ _ _
                have hg := HG.out.row hl hc ((HG.out.rows r hl).set hkm y)
                clear t1 ea0 ea1 ea2 eb0 eb1 eb2 kl0 kl1 kl2 hne1 hne2
                replace HP := Aside0.mk (HP.out.chg hc (fun e => by have := HGL.out.2 _ hl; have := HS.out; omega)); replace HLb := Aside0.mk (HLb.out.chg hc (fun e => by have := HGL.out.2 _ hl; have := HS.out; have := HS11.out; omega)); replace HX := Aside0.mk (HX.out.chg hc (fun e => by have := HGL.out.2 _ hl; omega)); replace HO := Aside0.mk (own_chg HO.out hc (fun k hk e => by have := HGL.out.2 _ hl; have := HS.out; omega)); replace H3 := Aside0.mk (hc.out H3.out (fun k hk => by rw [hk]; exact HG.out.ge _ hl)); replace HB3 := Aside0.mk (Nat.le_trans HB3.out hc.size)
                replace HG := Aside0.mk (hg.congr (G' := fun i j => if i = r then (if j < k + 1 then G1 r j / ld else G1 r j) else G1 i j) (fun i hi j hj => by
                  by_cases h1 : i = r
                  · simp only [h1, if_true]
                    by_cases h2 : j = k
                    · subst h2
                      rw [if_pos rfl, if_pos (by omega), HXY.out.1, HXY.out.2]
                    · rw [if_neg h2]
                      by_cases h3 : j < k
                      · rw [if_pos h3, if_pos (by omega)]
                      · rw [if_neg h3, if_neg (by omega)]
                  · simp only [if_neg h1]))
                clear hc hg
                go_wp2
                refine ⟨⟨k + 1, hkm, rfl, HG, HO, HP, HLb, HX, H3, HB3⟩, ?_⟩
                simp [intOf]; omega
              · obtain rfl : m = k := by omega
                obtain ⟨G2, hG2⟩ : ∃ G2, scaleR G1 r c = G2 := ⟨_, rfl⟩
                have HG2 := Aside0.mk hG2
                replace HG := Aside0.mk (HG.out.congr (G' := G2) (fun i hi j hj => by
                  rw [← hG2]
                  unfold scaleR
                  split
                  · rename_i h; rw [HLD.out]
                  · rfl))
                clear hG2
                have HE2 : Aside0 (∀ a, a < n → ∀ b, b < m → Fit (K' + K') (G2 a b)) := ⟨fun a ha b hb => by
                  rw [← HG2.out, ← HG1.out]
                  have e1 : ∀ a, a < n → ∀ b, b < m → Fit K' (swapR S.G at_ r a b) := by
                    intro a ha b hb
                    unfold swapR
                    split
                    · exact HI.out.ent _ hl _ hb
                    · split
                      · exact HI.out.ent _ hat _ hb
                      · exact HI.out.ent _ ha _ hb
                  unfold scaleR
                  split
                  · exact (e1 _ hl _ hb).div (e1 _ hl _ HCM.out)
                  · exact (e1 _ ha _ hb).mono (by omega)⟩
                have HK : Aside0 (K' + K' + (K' + K' + (K' + K')) + 1 ≤ 1073741824) := ⟨by have := HI.out.one; have := HF.out; omega⟩
                go_wp2
                go_loopw [93] (fun v93 wr => ∃ i : Nat, i ≤ n ∧ v93 = .int .i64 i ∧ Aside0 (Grid wr w0.heap.size g n m A1 C1 (fun a b => if a < i then clearR G2 r c a b else G2 a b)) ∧ Aside0 (OwnP wr b3 (.slice pa r pc) S.piv) ∧ Aside0 (Bx wr p7 (.bool (ngv q2)) (.string (enc q2.num.natAbs)) (.string (encD q2.den))) ∧ Aside0 (Bx wr p11 (.bool (ngv ld)) (.string (enc ld.num.natAbs)) (.string (encD ld.den))) ∧ Aside0 (Bx wr w.heap.size (.bool false) (.string ⟨#[]⟩) (.string ⟨#[]⟩)) ∧ Aside0 (Below w0.heap.size w0 wr) ∧ Aside0 (b3 ≤ wr.heap.size)) (fun v93 _ => n - (intOf v93).toNat)
                case atStart => exact ⟨0, by omega, rfl, ⟨HG.out.congr (fun i hi j hj => by rw [if_neg (by omega)])⟩, HO, HP, HLb, HX, H3, HB3⟩
                case round =>
                  clear HG HO HP HLb HX H3 HB3
                  obtain ⟨i, hi, rfl, HG, HO, HP, HLb, HX, H3, HB3⟩ := hrel
                  by_cases hin : i < n
                  ·
                    by_cases hir : i = r
                    · have hir2 : (i : Int) = (r : Int) := by omega
                      have HIR := Aside0.mk hir
                      clear hir
                      go_wp2
                      refine ⟨⟨i + 1, hin, by go_num, ⟨HG.out.congr (fun a ha b hb => ?_)⟩, HO, HP, HLb, HX, H3, HB3⟩, ?_⟩
                      · by_cases h1 : a < i
                        · rw [if_pos h1, if_pos (by omega)]
                        · rw [if_neg h1]
                          by_cases h2 : a < i + 1
                          · rw [if_pos h2]; unfold clearR; rw [if_pos (by have := HIR.out; omega)]
                          · rw [if_neg h2]
                      · simp [intOf]; omega
                    · have hir2 : ¬ (i : Int) = (r : Int) := by omega
                      have HIR := Aside0.mk hir
                      have t1 := HG.out.top i hin
                      have E1 := Aside0.mk ((HG.out.rows i hin).el c HCM.out)
                      simp only [Nat.lt_irrefl, if_false] at E1
                      obtain ⟨f, hf⟩ : ∃ f, G2 i c = f := ⟨_, rfl⟩
                      rw [hf] at E1
                      have HFf := Aside0.mk hf
                      clear hf
                      have e0 := E1.out.c0
                      have e1 := E1.out.c1
                      have e2 := E1.out.c2
                      by_cases hz : f = 0
                      · have HZ := Aside0.mk hz
                        clear hz
                        go_wp2_with (go_at_call 56; (with_reducible refine (isZero_t (Below.refl _ _) HZ.out).mono ?_); rintro e w1 ⟨rfl, hV⟩; replace HG := Aside0.mk (HG.out.below hV); replace HO := Aside0.mk (pw_own_below HO.out hV); replace HP := Aside0.mk (HP.out.below hV); replace HX := Aside0.mk (HX.out.below hV); replace H3 := Aside0.mk (below_step H3.out hV); replace HB3 := Aside0.mk (Nat.le_trans HB3.out hV.size); replace HLb := Aside0.mk (HLb.out.below hV); clear hV)
                        refine ⟨⟨i + 1, hin, by go_num, ⟨HG.out.congr (fun a ha b hb => ?_)⟩, HO, HP, HLb, HX, H3, HB3⟩, ?_⟩
                        · by_cases h1 : a < i
                          · rw [if_pos h1, if_pos (by omega)]
                          · rw [if_neg h1]
                            by_cases h2 : a < i + 1
                            · obtain rfl : a = i := by omega
                              rw [if_pos h2]; unfold clearR; rw [if_neg HIR.out, HFf.out, HZ.out, Rat.zero_mul, Rat.sub_eq_add_neg, Rat.neg_zero, Rat.add_zero]
                            · rw [if_neg h2]
                        · simp [intOf]; omega
                      · have HZ := Aside0.mk hz
                        clear hz
                        go_upto_region 23 with (go_at_call 56; (with_reducible refine (isZero_f (Below.refl _ _) HZ.out).mono ?_); rintro e w1 ⟨rfl, hV⟩; replace HG := Aside0.mk (HG.out.below hV); replace HO := Aside0.mk (pw_own_below HO.out hV); replace HP := Aside0.mk (HP.out.below hV); replace HX := Aside0.mk (HX.out.below hV); replace H3 := Aside0.mk (below_step H3.out hV); replace HB3 := Aside0.mk (Nat.le_trans HB3.out hV.size); replace HLb := Aside0.mk (HLb.out.below hV); replace E1 := Aside0.mk (E1.out.below hV); clear hV t1 e0 e1 e2)
                        (refine wp_region_below_tail 15 (by kernel_rfl) (by kernel_rfl) ?_); (simp only [List.take_succ_cons, List.take_zero, List.drop_succ_cons, List.drop_zero]); (repeat (refine wpQuiet_step (fun K hK => ?_); go_simp; first | (refine hK _ ?_; clear hK K) | (apply Exists.intro; refine ⟨fun V hV => ?_, hK _ ?_⟩; (focus ((first | rfl | ((have kx := (HG.out.below hV).top r hl); go_simp; first | rfl | fail) | ((have kx := (HG.out.below hV).top i hin); go_simp; first | rfl | fail) | ((have kx := (E1.out.below hV)); have kc0 := kx.c0; have kc1 := kx.c1; have kc2 := kx.c2; clear kx; go_simp; first | rfl | fail)))); clear hK K))); (refine wpQuiet_nil ?_); (intro V hV)
                        replace HG := Aside0.mk (HG.out.below hV); replace HO := Aside0.mk (pw_own_below HO.out hV); replace HP := Aside0.mk (HP.out.below hV); replace HX := Aside0.mk (HX.out.below hV); replace H3 := Aside0.mk (below_step H3.out hV); replace HB3 := Aside0.mk (Nat.le_trans HB3.out hV.size)
                        replace HLb := Aside0.mk (HLb.out.below hV)
                        clear hV E1
                        have hA := (HG.out.rows i hin).congr (q' := G2 i) (fun b hb => if_neg (Nat.lt_irrefl i))
                        have hQ := (HG.out.rows r hl).congr (q' := G2 r) (fun b hb => by
                          by_cases h1 : r < i
                          · refine (if_pos h1).trans ?_
                            unfold clearR; rw [if_pos rfl]
                          · exact if_neg h1)
                        have hne : A1 i ≠ A1 r := fun e => HIR.out (HG.out.inj i r hin hl e)
                        have HMI := Aside0.mk (minus_c (ca := C1 i) (cb := C1 r) (f := f) (N := K' + K') hA hQ hne hm (fun k hk => HE2.out i hin k hk) (fun k hk => HE2.out r hl k hk) (HFf.out ▸ HE2.out i hin c HCM.out) HK.out)
                        clear hA hQ hne
                        go_wp2_with (go_at_call 57; (with_reducible refine HMI.out.mono ?_); rintro e w1 ⟨rfl, hrow, hc⟩)
                        have hg := HG.out.row hin hc hrow
                        replace HP := Aside0.mk (HP.out.chg hc (fun e => by have := HGL.out.2 _ hin; have := HS.out; omega)); replace HLb := Aside0.mk (HLb.out.chg hc (fun e => by have := HGL.out.2 _ hin; have := HS.out; have := HS11.out; omega)); replace HX := Aside0.mk (HX.out.chg hc (fun e => by have := HGL.out.2 _ hin; omega)); replace HO := Aside0.mk (own_chg HO.out hc (fun k hk e => by have := HGL.out.2 _ hin; have := HS.out; omega)); replace H3 := Aside0.mk (hc.out H3.out (fun k hk => by rw [hk]; exact HG.out.ge _ hin)); replace HB3 := Aside0.mk (Nat.le_trans HB3.out hc.size)
                        refine ⟨⟨i + 1, hin, by go_num, ⟨hg.congr (fun a ha b hb => ?_)⟩, HO, HP, HLb, HX, H3, HB3⟩, ?_⟩
                        · by_cases h1 : a = i
                          · subst h1
                            simp only [if_true]
                            rw [if_pos (by omega)]; unfold clearR; rw [if_neg HIR.out, HFf.out]
                          · simp only [if_neg h1]
                            by_cases h2 : a < i
                            · rw [if_pos h2, if_pos (by omega)]
                            · rw [if_neg h2, if_neg (by omega)]
                        · simp [intOf]; omega
                  · obtain rfl : n = i := by omega
                    obtain ⟨G3, hG3⟩ : ∃ G3, clearR G2 r c = G3 := ⟨_, rfl⟩
                    have HG3 := Aside0.mk hG3
                    replace HG := Aside0.mk (HG.out.congr (G' := G3) (fun a ha b hb => by rw [← hG3]; exact if_pos ha))
                    clear hG3
                    go_wp2_with (at_builtin; refine print_append_num b3 rfl (.tmp 127) (.tmp 129) 31 3 .i64 8 rfl Tryd.underlying31 infoInt (by decide) _ (ints S.piv) c rfl rfl ?_ (Below.refl b3 wr) HB3.out ?_ ?_)
                    · exact own_n HO.out (by simp [ints, HR.out])
                    · simp [ints, HR.out]; omega
                    intro v1 w1 ho1 hb1 _ _
                    have hc := chg_of_belowB hb1
                    replace HG := Aside0.mk (HG.out.chg2 hc (fun h => by have := HGL.out.1; have := HS.out; omega) (fun a ha h => by have := HGL.out.2 a ha; have := HS.out; omega))
                    replace HX := Aside0.mk (HX.out.chg hc (fun h => by have := HS.out; omega))
                    replace HP := Aside0.mk (HP.out.chg hc (fun h => by have := HS.out; omega))
                    replace H3 := Aside0.mk (hc.out H3.out (fun k hk => by have := HS.out; have := H0.out.size; omega))
                    replace HB3 := Aside0.mk (Nat.le_trans HB3.out hc.size)
                    have HO1 : Aside0 (OwnP w1 b3 v1 (S.piv ++ [c])) := ⟨own_snoc ho1 (by simp [ints, HR.out])⟩
                    clear hc hb1 ho1
                    go_wp2
                    refine ⟨⟨c + 1, 8 * K', stepAt c at_ S, A1, C1, rfl, by have := HCM.out; omega, ⟨HST.out.1⟩, ⟨HG.out.congr (fun a ha b hb => ?_)⟩, HGL, HO1, ⟨?_⟩, HX, H3, HB3⟩, ?_⟩
                    · rw [← HG3.out, ← HG2.out, ← HG1.out, ← HR.out]; rfl
                    · have e : (stepAt c at_ S).pr = q2 := by
                        rw [← HQ2.out, HQ1.out, HLD0.out.1, ← HR.out]; rfl
                      rw [e]; exact HP.out
                    · simp [intOf]; omega
      · have he := HI.out.end_ (.inr (by rw [HR.out]; exact hl)); subst he; go_upto_region 26 with (fail); ((refine wp_region_below_tail 3 (by kernel_rfl) (by kernel_rfl) ?_); (simp only [List.take_succ_cons, List.take_zero, List.drop_succ_cons, List.drop_zero]); (repeat (refine wpQuiet_step (fun K hK => ?_); go_simp; first | (refine hK _ ?_; clear hK K) | (apply Exists.intro; refine ⟨fun V hV => ?_, hK _ ?_⟩; (focus ((first | rfl | ((have kx := (HP.out.below hV)); have kc0 := kx.c0; have kc1 := kx.c1; have kc2 := kx.c2; clear kx; go_simp; first | rfl | fail)))); clear hK K))); (refine wpQuiet_nil ?_); (intro V hV)); (replace HG := Aside0.mk (HG.out.below hV); replace HO := Aside0.mk (pw_own_below HO.out hV); replace HP := Aside0.mk (HP.out.below hV); replace HX := Aside0.mk (HX.out.below hV); replace H3 := Aside0.mk (below_step H3.out hV); replace HB3 := Aside0.mk (Nat.le_trans HB3.out hV.size)); clear hV; (have kx := (HX.out); have kx0 := kx.c0; have kx1 := kx.c1; have kx2 := kx.c2; have fx0 := kx.f0; have fx1 := kx.f1; have fx2 := kx.f2; clear kx); go_wp2; (refine bodyPost_ret (results_tmp_bx rfl rfl (HX.out.set _ _ _)) rfl ?_); (refine ⟨_, A', C', rfl, below_set3 H3.out H0.out.size, HG.out.chg2 (S := fun b => b = w.heap.size) (chg_set3 (S := fun b => b = w.heap.size) (o := 0) (Chg.refl _ _) (.inl rfl) _ _ _) (fun e => ?_) (fun i hi e => ?_), ?_⟩); (focus (have := HGL.out.1; omega)); (focus (have := HGL.out.2 i hi; omega)); (exact own_len HR.out (own_weaken (own_set3 (o := 0) HO.out (Nat.lt_trans HS.out.1 HS.out.2)) (Nat.le_of_lt (Nat.lt_trans HS.out.1 HS.out.2))))
    · have he := HI.out.end_ (.inl hcc); subst he; go_upto_region 26 with (fail); ((refine wp_region_below_tail 3 (by kernel_rfl) (by kernel_rfl) ?_); (simp only [List.take_succ_cons, List.take_zero, List.drop_succ_cons, List.drop_zero]); (repeat (refine wpQuiet_step (fun K hK => ?_); go_simp; first | (refine hK _ ?_; clear hK K) | (apply Exists.intro; refine ⟨fun V hV => ?_, hK _ ?_⟩; (focus ((first | rfl | ((have kx := (HP.out.below hV)); have kc0 := kx.c0; have kc1 := kx.c1; have kc2 := kx.c2; clear kx; go_simp; first | rfl | fail)))); clear hK K))); (refine wpQuiet_nil ?_); (intro V hV)); (replace HG := Aside0.mk (HG.out.below hV); replace HO := Aside0.mk (pw_own_below HO.out hV); replace HP := Aside0.mk (HP.out.below hV); replace HX := Aside0.mk (HX.out.below hV); replace H3 := Aside0.mk (below_step H3.out hV); replace HB3 := Aside0.mk (Nat.le_trans HB3.out hV.size)); clear hV; (have kx := (HX.out); have kx0 := kx.c0; have kx1 := kx.c1; have kx2 := kx.c2; have fx0 := kx.f0; have fx1 := kx.f1; have fx2 := kx.f2; clear kx); go_wp2; (refine bodyPost_ret (results_tmp_bx rfl rfl (HX.out.set _ _ _)) rfl ?_); (refine ⟨_, A', C', rfl, below_set3 H3.out H0.out.size, HG.out.chg2 (S := fun b => b = w.heap.size) (chg_set3 (S := fun b => b = w.heap.size) (o := 0) (Chg.refl _ _) (.inl rfl) _ _ _) (fun e => ?_) (fun i hi e => ?_), ?_⟩); (focus (have := HGL.out.1; omega)); (focus (have := HGL.out.2 i hi; omega)); (exact own_len HR.out (own_weaken (own_set3 (o := 0) HO.out (Nat.lt_trans HS.out.1 HS.out.2)) (Nat.le_of_lt (Nat.lt_trans HS.out.1 HS.out.2))))
end Go.Proofs.YtiamgjepcagohaaDoor.P
