/- ClRa2: lemmas of this claim, of 4 texts. -/
import Derived.Deep.QuietTactic
import Derived.StillTail
import Derived.Below
import Derived.Test.YtiamgjepcagohaaDoorClRtx
import Derived.Test.YtiamgjepcagohaaDoorClRv
import Derived.Outline
import Derived.Deep.RegionHeld3
import Derived.Handy
section
/- A region that draws its order: first operations that are quiet in a class of worlds, then a tail in one order. (The tail's Bool and what the tail waits for: Derived/StillTail.lean; quiet operations: Derived/Deep/Quiet.lean.) -/
namespace Go.Proofs.YtiamgjepcagohaaDoor.Ari
open Go Go.RowKit

section
variable {P : Program} {ops : Array Oper} {md : Region.Mode} {C : World → Prop}
def headQ (P : Program) (md : Region.Mode) (ops : Array Oper) (C : World → Prop) (n : Nat) (L : Array Bool → Act → Prop) : Nat → Array Bool → Act → Prop
  | 0, listed, a => L listed a
  | f + 1, listed, a => Region.ready md ops listed ≠ [] ∧ ∀ i ∈ Region.ready md ops listed, i < n ∧ qOp P ops C i (headQ P md ops C n L f (listed.setIfInBounds i true)) a
theorem headQ_any {n g : Nat} {L : Array Bool → Act → Prop} {Q : Exit → Act → World → Prop} (hL : ∀ listed a w, C w → L listed a → wpAny P md ops Q g listed a w) :
    ∀ (f : Nat) (listed : Array Bool) (a : Act) (w : World), C w → headQ P md ops C n L f listed a → wpAny P md ops Q (f + g) listed a w
  | 0, listed, a, w, hw, h => by rw [Nat.zero_add]; exact hL _ _ _ hw h
  | f + 1, listed, a, w, hw, h => by
    rw [Nat.succ_add]
    refine ⟨fun h0 => absurd h0 h.1, fun i hi => ?_⟩
    exact wpOp_of_qOp hw (fun a' w' hw' h' => headQ_any hL f _ a' w' hw' h') (h.2 i hi).2
theorem headQ_first {n i : Nat} {oi : Oper} {v : Value} {L : Array Bool → Act → Prop} (hi : ops[i]? = some oi) (hsel : ∀ (j : Nat) (o : Oper) cs b, ops[j]? = some o → o.op ≠ .select cs b)
    (hs : Region.sinkB md ops n = true) (hc : Region.chainB md ops n = true) (hn : n < ops.size) (hin : i < n) (hend : ∀ listed a, L listed a → ∀ j ∈ Region.ready md ops listed, n ≤ j) :
    ∀ (f : Nat) (listed : Array Bool) (a : Act), HeadInv md ops n listed →
      (∀ j oj, ops[j]? = some oj → j ≠ i → listed.getD j true = false → (∀ e ∈ oj.after, Region.binds md e = true → e.on ≠ i) → oi.apart ops oj = true) →
      i ∈ Region.ready md ops listed → YieldsIn P ops C oi v a → headQ P md ops C n L f (listed.setIfInBounds i true) (a.put oi.dst v) → headQ P md ops C n L (f + 1) listed a := by
  intro f
  induction f with
  | zero =>
    intro listed a inv _ hr hy H
    have hun := (mem_ready.1 hr).1
    refine ⟨List.ne_nil_of_mem hr, fun j hj => ?_⟩
    have hjn : j < n := Nat.lt_of_not_le fun h => tail_waits hs hc hn inv _ i rfl hin hun j h hj
    refine ⟨hjn, ?_⟩
    by_cases hji : j = i
    · subst hji
      exact hy.qOp hi H
    · exact absurd (hend _ _ H j (ready_mono hj hji)) (by omega)
  | succ f ih =>
    intro listed a inv hfree hr hy H
    have hun := (mem_ready.1 hr).1
    refine ⟨List.ne_nil_of_mem hr, fun j hj => ?_⟩
    have hjn : j < n := Nat.lt_of_not_le fun h => tail_waits hs hc hn inv _ i rfl hin hun j h hj
    refine ⟨hjn, ?_⟩
    by_cases hji : j = i
    · subst hji
      exact hy.qOp hi H
    · obtain ⟨hjun, oj, hoj, hall⟩ := mem_ready.1 hj
      have hnot : ∀ e ∈ oj.after, Region.binds md e = true → e.on ≠ i := fun e he hb heq => by
        have h1 := hall e he hb
        rw [heq, getD_both hun] at h1
        cases h1
      have h2 := qOp_put hoj (hfree j oj hoj hji hjun hnot) (fun cs b => hsel i oi cs b hi) (fun cs b => hsel j oj cs b hoj) hy (H.2 j (ready_mono hj hji)).2
      refine qOp_mono (fun a' h3 => ?_) h2
      refine ih (listed.setIfInBounds j true) a' (inv.set hj hjn) (fun k ok hk hki hu hno => hfree k ok hk hki ?_ hno) (ready_mono hr (Ne.symm hji)) h3.1 ?_
      · by_cases hjk : j = k
        · subst hjk; exact hjun
        · rwa [getD_set_ne true hjk] at hu
      · rw [Array.setIfInBounds_comm _ _ hji]
        exact h3.2
theorem headQ_lex {n g : Nat} {Lq : Act → Prop} (hsel : Region.noSelect ops = true) (hs : Region.sinkB md ops n = true) (hc : Region.chainB md ops n = true) (hn : n < ops.size) :
    ∀ (l : List Oper) (k : Nat) (listed : Array Bool) (a : Act), (∀ j, j < l.length → l[j]? = ops[k + j]?) → k + l.length = n → HeadInv md ops n listed →
    Region.lexHead md ops g l.length k listed = true → wpQuiet P ops C Lq l a → headQ P md ops C n (fun listed' a' => Region.seqB md ops g n listed' = true ∧ Lq a') l.length listed a
  | [], k, listed, a, _, hk, _, hB, h => by
    obtain rfl : k = n := by simpa using hk
    exact ⟨by simpa [Region.lexHead] using hB, h⟩
  | o :: l, k, listed, a, hl, hk, inv, hB, h => by
    have h0 : ops[k]? = some o := by simpa using (hl 0 (by simp)).symm
    simp only [List.length_cons] at hk
    simp only [List.length_cons, Region.lexHead, Bool.and_eq_true] at hB
    have hr : k ∈ Region.ready md ops listed := by simpa using hB.1.1
    have hq : qOp P ops C k (wpQuiet P ops C Lq l) a := by unfold qOp; simp only [h0]; exact h
    obtain ⟨v, hy, hK⟩ := yieldsIn_of_qOp h0 hq
    refine headQ_first h0 (Region.noSelect_spec hsel) hs hc hn (by omega) (fun _ _ hL => seqB_ready hL.1) l.length listed a inv (Region.free_spec h0 hB.1.2) hr hy ?_
    refine headQ_lex hsel hs hc hn l (k + 1) _ _ (fun j hj => ?_) (by omega) (inv.set hr (by omega)) hB.2 hK
    have := hl (j + 1) (by simp; omega)
    simpa [Nat.add_assoc, Nat.add_comm 1 j] using this
/-- A region that draws its order: n quiet operations, one walk in the order of the text; then the tail, from every world of the class. -/
theorem wp_region_quiet_tail {id : Nat} {Q : Exit → Act → World → Prop} {a : Act} {w : World} {l : List Oper} (n : Nat) (hm : P.follows .mixedOrders = true) (hB : Region.lexTailB .any l.toArray n = true) (hC : C w.drew)
    (h : wpQuiet P l.toArray C (fun a' => ∀ w', C w' → wpList P l.toArray Q (l.drop n) a' w') (l.take n) a) : (Code.region id l.toArray true).wp P Q a w := by
  simp only [Region.lexTailB, Bool.and_eq_true, decide_eq_true_eq] at hB
  obtain ⟨⟨⟨⟨hsel, hn⟩, hs⟩, hc⟩, hlex⟩ := hB
  have hnl : n < l.length := by simpa using hn
  have ht : (l.take n).length = n := by simp; omega
  have hd : (l.drop n).length = l.toArray.size - n := by simp
  have inv : HeadInv .any l.toArray n (Array.replicate l.toArray.size false) :=
    ⟨by simp, fun j oj _ hl => (by rw [getD_replicate_false] at hl; cases hl), fun t _ h => getD_in (by simpa using h) (getD_replicate_false _ _)⟩
  have H := headQ_lex (md := .any) (C := C) (g := l.toArray.size - n) hsel hs hc hn (l.take n) 0 _ a (fun j hj => by rw [ht] at hj; simp [hj]) (by simpa using ht) inv (by rw [ht]; exact hlex) h
  refine wp_region_any hm ?_
  have := headQ_any (Q := Q) (g := l.toArray.size - n) (fun listed a' w' hw' hL => by
    have := wpAny_of_seq (md := .any) (Q' := Q) (l.drop n) n listed a' w' (fun j => by simp [List.getElem?_drop]) (by rw [hd]; exact hL.1) (hL.2 w' hw')
    rwa [hd] at this) _ _ _ _ hC H
  rw [ht, show n + (l.toArray.size - n) = l.toArray.size by omega] at this
  exact this
theorem wp_region_below_tail {id : Nat} {Q : Exit → Act → World → Prop} {a : Act} {w : World} {l : List Oper} (n : Nat) (hm : P.follows .mixedOrders = true) (hB : Region.lexTailB .any l.toArray n = true)
    (h : wpQuiet P l.toArray (fun w' => Below w.heap.size w w') (fun a' => ∀ w', Below w.heap.size w w' → wpList P l.toArray Q (l.drop n) a' w') (l.take n) a) : (Code.region id l.toArray true).wp P Q a w :=
  wp_region_quiet_tail n hm hB (Below.drew (Below.refl _ _)) h
end
end Go.Proofs.YtiamgjepcagohaaDoor.Ari
end
section
/- Package rational: its walks. -/
namespace Go.Proofs.YtiamgjepcagohaaDoor.P
open Go Go.RowKit Go.Proofs.YtiamgjepcagohaaDoorW.PrintWords Go.Proofs.YtiamgjepcagohaaDoorW.PrintLast Go.Proofs.YtiamgjepcagohaaDoorW.PrintMore Go.Proofs.YtiamgjepcagohaaDoor.Ari

theorem ba_empty {t : ByteArray} : t.toList.isEmpty = true ↔ t = ⟨#[]⟩ := by
  constructor
  · intro h
    refine size0 ?_
    rw [List.isEmpty_iff, ByteArray.toList_eq] at h
    have := congrArg List.length h
    simpa using this
  · rintro rfl; rw [ByteArray.toList_eq]; rfl
theorem empty_enc (n : Nat) : (enc n).toList.isEmpty = decide (n = 0) := by
  rw [Bool.eq_iff_iff, ba_empty, decide_eq_true_iff]
  exact enc_eq_empty
theorem empty_encD {d : Nat} (hd : 0 < d) : (encD d).toList.isEmpty = decide (d = 1) := by
  unfold encD
  by_cases h : d = 1
  · rw [if_pos h]
    simp [h]
  · rw [if_neg h, empty_enc]
    simp [h]
    omega

/-- A region that draws its order, every operation of which yields one value in every world beyond w, and leaves such a world: one walk, in the order of the text. -/
theorem wp_region_below {P : Program} {id : Nat} {Q : Exit → Act → World → Prop} {a : Act} {w : World} {l : List Oper} (hm : P.follows .mixedOrders = true) (hB : Region.lexB .any l.toArray = true)
    (h : wpQuiet P l.toArray (fun w' => Below w.heap.size w w') (fun a' => ∀ w', Below w.heap.size w w' → Q .normal a' w') l a) : (Code.region id l.toArray true).wp P Q a w :=
  wp_region_quiet (C := fun w' => Below w.heap.size w w') hm hB (below_drew1 (Below.refl _ _)) (by simpa using h)
theorem toList_one {t : ByteArray} : t.toList = [1] ↔ t = ⟨#[1]⟩ := by
  constructor
  · intro h
    rw [ByteArray.toList_eq] at h
    apply ByteArray.ext
    apply Array.ext'
    exact h
  · rintro rfl; rw [ByteArray.toList_eq]
theorem one_enc (n : Nat) : ((enc n).toList == [1]) = decide (n = 1) := by
  rw [Bool.eq_iff_iff, beq_iff_eq, decide_eq_true_iff, toList_one, ← enc_one]
  exact ⟨enc_inj, fun h => by rw [h]⟩

/-- A block of three cells that can be written. -/
structure Bx (W : World) (g : Nat) (a b c : Value) : Prop where
  lt : g < W.heap.size
  c0 : W.cell? ⟨g, 0, none⟩ = some a
  c1 : W.cell? ⟨g, 1, none⟩ = some b
  c2 : W.cell? ⟨g, 2, none⟩ = some c
  f0 : W.frozen? ⟨g, 0, none⟩ = false
  f1 : W.frozen? ⟨g, 1, none⟩ = false
  f2 : W.frozen? ⟨g, 2, none⟩ = false
theorem Bx.below {W W' : World} {g : Nat} {a b c : Value} (h : Bx W g a b c) (hb : Below W.heap.size W W') : Bx W' g a b c :=
  ⟨Nat.lt_of_lt_of_le h.lt hb.size, (hb.cell (p := ⟨g, 0, none⟩) h.lt).trans h.c0, (hb.cell (p := ⟨g, 1, none⟩) h.lt).trans h.c1, (hb.cell (p := ⟨g, 2, none⟩) h.lt).trans h.c2, (hb.frozen (p := ⟨g, 0, none⟩) h.lt).trans h.f0, (hb.frozen (p := ⟨g, 1, none⟩) h.lt).trans h.f1, (hb.frozen (p := ⟨g, 2, none⟩) h.lt).trans h.f2⟩
theorem Bx.alloc (w : World) (a b c : Value) (t : TypeId) : Bx (w.alloc (.cells #[a, b, c] t)) w.heap.size a b c := by
  constructor <;> simp

/-- The boxes of a function's variables. -/
theorem box1 (w : World) (a b c : Value) (t : TypeId) : ∃ W, w.alloc (.cells #[a, b, c] t) = W ∧ Aside0 (Bx W w.heap.size a b c) ∧ Below w.heap.size w W :=
  ⟨_, rfl, ⟨Bx.alloc _ _ _ _ _⟩, below_alloc (Below.refl _ _) _⟩
theorem boxR (w : World) (t : TypeId) : ∃ W, w.alloc (.cells #[.bool false, .string ⟨#[]⟩, .string ⟨#[]⟩] t) = W ∧ Aside0 (Bx W w.heap.size (.bool false) (.string ⟨#[]⟩) (.string ⟨#[]⟩)) ∧ Below w.heap.size w W := box1 w _ _ _ t
theorem box2 (w : World) (a b c : Value) (t : TypeId) : ∃ W, (w.alloc (.cells #[a, b, c] t)).alloc (.cells #[.bool false, .string ⟨#[]⟩, .string ⟨#[]⟩] t) = W ∧ Aside0 (Bx W w.heap.size a b c) ∧ Aside0 (Bx W (w.heap.size + 1) (.bool false) (.string ⟨#[]⟩) (.string ⟨#[]⟩)) ∧ Below w.heap.size w W := by
  refine ⟨_, rfl, ⟨(Bx.alloc _ _ _ _ _).below (below_alloc (Below.refl _ _) _)⟩, ⟨?_⟩, below_alloc (below_alloc (Below.refl _ _) _) _⟩
  have := Bx.alloc (w.alloc (.cells #[a, b, c] t)) (.bool false) (.string ⟨#[]⟩) (.string ⟨#[]⟩) t
  simpa using this
theorem box3 (w : World) (a b c a' b' c' : Value) (t : TypeId) : ∃ W, ((w.alloc (.cells #[a, b, c] t)).alloc (.cells #[a', b', c'] t)).alloc (.cells #[.bool false, .string ⟨#[]⟩, .string ⟨#[]⟩] t) = W ∧ Aside0 (Bx W w.heap.size a b c) ∧ Aside0 (Bx W (w.heap.size + 1) a' b' c') ∧ Aside0 (Bx W (w.heap.size + 1 + 1) (.bool false) (.string ⟨#[]⟩) (.string ⟨#[]⟩)) ∧ Below w.heap.size w W := by
  refine ⟨_, rfl, ⟨(Bx.alloc _ _ _ _ _).below (below_alloc (below_alloc (Below.refl _ _) _) _)⟩, ⟨?_⟩, ⟨?_⟩, below_alloc (below_alloc (below_alloc (Below.refl _ _) _) _) _⟩
  · have := (Bx.alloc (w.alloc (.cells #[a, b, c] t)) a' b' c' t).below (below_alloc (Below.refl _ _) (.cells #[.bool false, .string ⟨#[]⟩, .string ⟨#[]⟩] t))
    simpa using this
  · have := Bx.alloc ((w.alloc (.cells #[a, b, c] t)).alloc (.cells #[a', b', c'] t)) (.bool false) (.string ⟨#[]⟩) (.string ⟨#[]⟩) t
    simpa using this
theorem Bx.other {W : World} {g h j : Nat} {a b c u : Value} (k : Bx W g a b c) (hne : g ≠ h) : Bx (W.setCell ⟨h, j, none⟩ u) g a b c := by
  obtain ⟨h0, h1, h2, h3, h4, h5, h6⟩ := k
  refine ⟨by simpa using h0, ?_, ?_, ?_, ?_, ?_, ?_⟩
  · exact (World.cell?_setCell_other _ _ _ _ (fun h => hne (by injection h with h; exact h.symm))).trans h1
  · exact (World.cell?_setCell_other _ _ _ _ (fun h => hne (by injection h with h; exact h.symm))).trans h2
  · exact (World.cell?_setCell_other _ _ _ _ (fun h => hne (by injection h with h; exact h.symm))).trans h3
  all_goals (rw [World.frozen?_setCell]; assumption)
theorem Bx.other3 {W : World} {g h : Nat} {a b c u u' u'' : Value} (k : Bx W g a b c) (hne : g ≠ h) : Bx (((W.setCell ⟨h, 0, none⟩ u).setCell ⟨h, 1, none⟩ u').setCell ⟨h, 2, none⟩ u'') g a b c := ((k.other hne).other hne).other hne
theorem below_set3 {w W : World} {g : Nat} {u u' u'' : Value} (h : Below w.heap.size w W) (hg : w.heap.size ≤ g) : Below w.heap.size w (((W.setCell ⟨g, 0, none⟩ u).setCell ⟨g, 1, none⟩ u').setCell ⟨g, 2, none⟩ u'') := below_set (below_set (below_set h hg) hg) hg
theorem Bx.set {W : World} {g : Nat} {a b c : Value} (h : Bx W g a b c) (a' b' c' : Value) : Bx (((W.setCell ⟨g, 0, none⟩ a').setCell ⟨g, 1, none⟩ b').setCell ⟨g, 2, none⟩ c') g a' b' c' := by
  obtain ⟨h0, h1, h2, h3, h4, h5, h6⟩ := h
  refine ⟨?_, ?_, ?_, ?_, ?_, ?_, ?_⟩
  · simp [go_sem, *]
  · simp [go_sem, *]
  · simp [go_sem, *]
  · simp [go_sem, *]
  all_goals (rw [World.frozen?_setCell, World.frozen?_setCell, World.frozen?_setCell]; assumption)
theorem Bx.load {W : World} {g : Nat} {a b c : Value} (h : Bx W g a b c) : (loadVar 27 ⟨g, 0, none⟩).run Tryd.prog W = .ok (.agg #[a, b, c]) W := by
  obtain ⟨h0, h1, h2, h3, h4, h5, h6⟩ := h
  simp [go_sem, *]
theorem results_bx {fn : Func} {p : Tmp} {tmps : Array Value} {W : World} {g : Nat} {a b c : Value} (h : fn.results = #[.cell p 27]) (hp : tmps.getD p undef = .pointer (some ⟨g, 0, none⟩)) (hb : Bx W g a b c) :
    (results fn tmps).run Tryd.prog W = .ok (.agg #[a, b, c]) W := by
  have h1 := hb.load
  have h2 : tmps[p]?.getD undef = .pointer (some ⟨g, 0, none⟩) := by simpa using hp
  simp only [results, h]
  simp [Sem.run_bind, Result.andThen, h2, asAddr, h1]

theorem box_set2 {w0 w W V : World} {a b c a' b' c' r0 r1 r2 : Value} (HX : Aside0 (Bx W w.heap.size a b c)) (HY : Aside0 (Bx W (w.heap.size + 1) a' b' c')) (HR : Aside0 (Bx W (w.heap.size + 1 + 1) r0 r1 r2)) (hV : Below W.heap.size W V) (HW : Aside0 (Below w0.heap.size w0 W)) (hg : w0.heap.size ≤ w.heap.size) (x0 x1 x2 y0 y1 y2 : Value) :
    ∃ W2, ((((((V.setCell ⟨w.heap.size, 0, none⟩ x0).setCell ⟨w.heap.size, 1, none⟩ x1).setCell ⟨w.heap.size, 2, none⟩ x2).setCell ⟨w.heap.size + 1, 0, none⟩ y0).setCell ⟨w.heap.size + 1, 1, none⟩ y1).setCell ⟨w.heap.size + 1, 2, none⟩ y2) = W2 ∧
      Aside0 (Bx W2 w.heap.size x0 x1 x2) ∧ Aside0 (Bx W2 (w.heap.size + 1) y0 y1 y2) ∧ Aside0 (Bx W2 (w.heap.size + 1 + 1) r0 r1 r2) ∧ Aside0 (Below w0.heap.size w0 W2) :=
  ⟨_, rfl, ⟨((HX.out.below hV).set x0 x1 x2).other3 (by omega)⟩, ⟨((HY.out.below hV).other3 (by omega)).set y0 y1 y2⟩, ⟨((HR.out.below hV).other3 (by omega)).other3 (by omega)⟩,
    ⟨below_set3 (below_set3 (below_step HW.out hV) hg) (by omega)⟩⟩

theorem results_bx_tmp {fn : Func} {p u : Tmp} {tmps : Array Value} {W : World} {g : Nat} {a b c : Value} (h : fn.results = #[.cell p 27, .tmp u]) (hp : tmps.getD p undef = .pointer (some ⟨g, 0, none⟩)) (hb : Bx W g a b c) :
    (results fn tmps).run Tryd.prog W = .ok (.tuple #[.agg #[a, b, c], tmps.getD u undef]) W := by
  have h1 := hb.load
  have h2 : tmps[p]?.getD undef = .pointer (some ⟨g, 0, none⟩) := by simpa using hp
  simp only [results, h]
  simp [Sem.run_bind, Result.andThen, h2, asAddr, h1]

set_option maxHeartbeats 2000000 in
set_option maxRecDepth 1000000 in
theorem den_c {w0 w : World} {b : Bool} {s : ByteArray} {d : Nat} (hB : Below w0.heap.size w0 w) (hd : 0 < d) :
    Calls Tryd.prog 28 #[.agg #[.bool b, .string s, .string (encD d)]] w fun e w' => e = .returned (.string (enc d)) ∧ Below w0.heap.size w0 w' := by
  obtain ⟨t, ht⟩ : ∃ t, encD d = t := ⟨_, rfl⟩
  have Ht := Aside0.mk ht
  rw [ht]
  have H0 := Aside0.mk hB
  clear hB ht
  go_enter Tryd.func28, Tryd.ntmps28
  go_wp2
  all_goals go_ret
  all_goals rename_i h
  all_goals rw [← Ht.out, empty_encD hd] at h
  all_goals refine ⟨?_, below_alloc H0.out _⟩
  · have : d = 1 := by simpa using h
    rw [this, enc_one]
    rfl
  · have : d ≠ 1 := by simpa using h
    rw [← Ht.out]
    unfold encD
    rw [if_neg this]
    rfl

set_option maxHeartbeats 2000000 in
set_option maxRecDepth 1000000 in
theorem reduced_c {w0 w : World} {b : Bool} {n d : Nat} (hB : Below w0.heap.size w0 w) (hd : 0 < d) (hn : Sm n) (hds : Sm d) :
    Calls Tryd.prog 26 #[.bool b, .string (enc n), .string (enc d)] w fun e w' => e = .returned (rv (qq b n d)) ∧ Below w0.heap.size w0 w' := by
  have H0 := Aside0.mk hB
  have hg : 0 < Nat.gcd n d := Nat.gcd_pos_of_pos_right n hd
  have hgs : Sm (Nat.gcd n d) := hds.le (Nat.gcd_le_right n hd)
  obtain ⟨W, hW⟩ : ∃ W, w.alloc (.cells #[.bool false, .string ⟨#[]⟩, .string ⟨#[]⟩] 27) = W := ⟨_, rfl⟩
  have HX : Aside0 (Bx W w.heap.size (.bool false) (.string ⟨#[]⟩) (.string ⟨#[]⟩)) := ⟨hW ▸ Bx.alloc _ _ _ _ _⟩
  have HW : Aside0 (Below w0.heap.size w0 W) := ⟨hW ▸ below_alloc hB _⟩
  have HE := Aside0.mk hW
  clear hB hW
  go_enter Tryd.func26, Tryd.ntmps26
  go_upto_region 1 with (fail)
  rw [HE.out]
  have HB : Aside0 (Below W.heap.size W W) := ⟨Below.refl _ _⟩
  go_wp2_with (first | (go_at_call 49; (with_reducible refine (norm_s (w0 := W) ?_ ?_).mono ?_); (focus ((repeat' (first | (refine Aside0.out ?_; assumption) | refine below_alloc ?_ _ | refine below_drew1 ?_ | refine pw_below_drewN ?_ _ | refine below_set ?_ ?_ | assumption | exact Below.refl _ _)); done)); assumption; (rintro e w1 ⟨rfl, hB⟩); have HB := Aside0.mk hB; have kx := (HX.out.below hB); have kc0 := kx.c0; have kc1 := kx.c1; have kc2 := kx.c2; have kf0 := kx.f0; have kf1 := kx.f1; have kf2 := kx.f2; clear kx; clear hB) | (go_at_call 50; (with_reducible refine (gcd_s (w0 := W) ?_ ?_ ?_).mono ?_); (focus ((repeat' (first | (refine Aside0.out ?_; assumption) | refine below_alloc ?_ _ | refine below_drew1 ?_ | refine pw_below_drewN ?_ _ | refine below_set ?_ ?_ | assumption | exact Below.refl _ _)); done)); assumption; assumption; (rintro e w1 ⟨rfl, hB⟩); have HB := Aside0.mk hB; have kx := (HX.out.below hB); have kc0 := kx.c0; have kc1 := kx.c1; have kc2 := kx.c2; have kf0 := kx.f0; have kf1 := kx.f1; have kf2 := kx.f2; clear kx; clear hB) | (go_at_call 51; (with_reducible refine (div_s (w0 := W) ?_ ?_ ?_ ?_).mono ?_); (focus ((repeat' (first | (refine Aside0.out ?_; assumption) | refine below_alloc ?_ _ | refine below_drew1 ?_ | refine pw_below_drewN ?_ _ | refine below_set ?_ ?_ | assumption | exact Below.refl _ _)); done)); assumption; assumption; assumption; (rintro e w1 ⟨rfl, hB⟩); have HB := Aside0.mk hB; have kx := (HX.out.below hB); have kc0 := kx.c0; have kc1 := kx.c1; have kc2 := kx.c2; have kf0 := kx.f0; have kf1 := kx.f1; have kf2 := kx.f2; clear kx; clear hB))
  all_goals (refine bodyPost_ret (results_bx rfl rfl (((HX.out.below HB.out).set _ _ _))) rfl ?_)
  all_goals refine ⟨?_, below_set (below_set (below_set (below_step HW.out HB.out) H0.out.size) H0.out.size) H0.out.size⟩
  all_goals congr 1
  · rename_i h
    rw [empty_enc, decide_eq_true_iff] at h
    rw [h, qq_zero, rv_zero]
  all_goals simp only [empty_enc, one_enc, Bool.not_eq_true', Bool.not_eq_false', decide_eq_true_iff, decide_eq_false_iff_not] at *
  all_goals rw [rv_qq hd (by assumption)]
  all_goals unfold encD
  all_goals clear kc0 kc1 kc2 kf0 kf1 kf2
  all_goals simp_all [Nat.gcd_one_right, Nat.div_one]
end Go.Proofs.YtiamgjepcagohaaDoor.P
end
section
/- Package rational: its walks. -/
namespace Go.Proofs.YtiamgjepcagohaaDoor.P
open Go Go.RowKit Go.Proofs.YtiamgjepcagohaaDoorW.PrintWords Go.Proofs.YtiamgjepcagohaaDoorW.PrintLast Go.Proofs.YtiamgjepcagohaaDoorW.PrintMore Go.Proofs.YtiamgjepcagohaaDoor.Ari

theorem ba_beq (a b : ByteArray) : (a.toList == b.toList) = decide (a = b) := by
  rw [Bool.eq_iff_iff, beq_iff_eq, decide_eq_true_iff]
  constructor
  · intro h
    rw [ByteArray.toList_eq, ByteArray.toList_eq] at h
    exact ByteArray.ext (Array.ext' h)
  · intro h; rw [h]

set_option maxHeartbeats 2000000 in
set_option maxRecDepth 1000000 in
theorem valid_a {w0 w : World} {b : Bool} {s t : ByteArray} (hB : Below w0.heap.size w0 w) (hs : s.size ≤ 1073741824) (hx : s ≠ enc (sv s)) :
    Calls Tryd.prog 48 #[.agg #[.bool b, .string s, .string t]] w fun e w' => e = .returned (.bool false) ∧ Below w0.heap.size w0 w' := by
  obtain ⟨x, hx0⟩ : ∃ x, enc (sv s) = x := ⟨_, rfl⟩
  have H0 := Aside0.mk hB
  obtain ⟨W, hW⟩ : ∃ W, w.alloc (.cells #[.bool b, .string s, .string t] 27) = W := ⟨_, rfl⟩
  have HX : Aside0 (Bx W w.heap.size (.bool b) (.string s) (.string t)) := ⟨hW ▸ Bx.alloc _ _ _ _ _⟩
  have HW : Aside0 (Below w0.heap.size w0 W) := ⟨hW ▸ below_alloc hB _⟩
  have HE := Aside0.mk hW
  have HN := Aside0.mk (fun V (hV : Below W.heap.size W V) => normA_s (s := s) hV hs)
  rw [hx0] at HN hx
  have hb : (x.toList == s.toList) = false := by rw [ba_beq, decide_eq_false_iff_not]; exact fun h => hx h.symm
  clear hB hW hx
  go_enter Tryd.func48, Tryd.ntmps48
  go_upto_region 1 with (fail)
  rw [HE.out]
  (refine wp_region_below (by kernel_rfl) (by kernel_rfl) ?_); (repeat (refine wpQuiet_step (fun K hK => ?_); go_simp; first | (refine hK _ ?_; clear hK K) | (apply Exists.intro; refine ⟨fun V hV => ?_, hK _ ?_⟩; (focus ((first | rfl | ((with_reducible exact HN.out _ hV)) | ((have kx := (HX.out.below hV)); have kc0 := kx.c0; have kc1 := kx.c1; have kc2 := kx.c2; clear kx; go_simp; first | rfl | fail)))); clear hK K))); (refine wpQuiet_nil ?_); (intro V hV)
  go_wp2
  go_ret
  exact ⟨rfl, below_step HW.out hV⟩

set_option maxHeartbeats 2000000 in
set_option maxRecDepth 1000000 in
theorem valid_b {w0 w : World} {b : Bool} {n : Nat} {t : ByteArray} (hB : Below w0.heap.size w0 w) (hn : Sm n) (hs : t.size ≤ 1073741824) (hx : t ≠ enc (sv t)) :
    Calls Tryd.prog 48 #[.agg #[.bool b, .string (enc n), .string t]] w fun e w' => e = .returned (.bool false) ∧ Below w0.heap.size w0 w' := by
  obtain ⟨x, hx0⟩ : ∃ x, enc (sv t) = x := ⟨_, rfl⟩
  obtain ⟨s, hs0⟩ : ∃ x, enc n = x := ⟨_, rfl⟩
  have H0 := Aside0.mk hB
  obtain ⟨W, hW⟩ : ∃ W, w.alloc (.cells #[.bool b, .string s, .string t] 27) = W := ⟨_, rfl⟩
  have HX : Aside0 (Bx W w.heap.size (.bool b) (.string s) (.string t)) := ⟨hW ▸ Bx.alloc _ _ _ _ _⟩
  have HW : Aside0 (Below w0.heap.size w0 W) := ⟨hW ▸ below_alloc hB _⟩
  have HE := Aside0.mk hW
  have HN := Aside0.mk (fun V (hV : Below W.heap.size W V) => normA_s (s := t) hV hs)
  have HS := Aside0.mk (fun V (hV : Below W.heap.size W V) => norm_s hV hn)
  rw [hx0] at HN hx
  rw [hs0] at HS ⊢
  have hb : (x.toList == t.toList) = false := by rw [ba_beq, decide_eq_false_iff_not]; exact fun h => hx h.symm
  clear hB hW hx hx0 hs0
  go_enter Tryd.func48, Tryd.ntmps48
  go_upto_region 1 with (fail)
  rw [HE.out]
  (refine wp_region_below (by kernel_rfl) (by kernel_rfl) ?_); (repeat (refine wpQuiet_step (fun K hK => ?_); go_simp; first | (refine hK _ ?_; clear hK K) | (apply Exists.intro; refine ⟨fun V hV => ?_, hK _ ?_⟩; (focus ((first | rfl | ((with_reducible exact HN.out _ hV)) | ((with_reducible exact HS.out _ hV)) | ((have kx := (HX.out.below hV)); have kc0 := kx.c0; have kc1 := kx.c1; have kc2 := kx.c2; clear kx; go_simp; first | rfl | fail)))); clear hK K))); (refine wpQuiet_nil ?_); (intro V hV)
  go_wp2
  go_ret
  exact ⟨rfl, below_step HW.out hV⟩

set_option maxHeartbeats 2000000 in
set_option maxRecDepth 1000000 in
theorem valid_c {w0 w : World} {b : Bool} {n d : Nat} (hB : Below w0.heap.size w0 w) (hn : Sm n) (hd : Sm d) :
    Calls Tryd.prog 48 #[.agg #[.bool b, .string (enc n), .string (enc d)]] w fun e w' => e = .returned (.bool (decide (valid b (enc n) (enc d)))) ∧ Below w0.heap.size w0 w' := by
  obtain ⟨s, hs0⟩ : ∃ x, enc n = x := ⟨_, rfl⟩
  obtain ⟨t, ht0⟩ : ∃ x, enc d = x := ⟨_, rfl⟩
  have H0 := Aside0.mk hB
  obtain ⟨W, hW⟩ : ∃ W, w.alloc (.cells #[.bool b, .string s, .string t] 27) = W := ⟨_, rfl⟩
  have HX : Aside0 (Bx W w.heap.size (.bool b) (.string s) (.string t)) := ⟨hW ▸ Bx.alloc _ _ _ _ _⟩
  have HW : Aside0 (Below w0.heap.size w0 W) := ⟨hW ▸ below_alloc hB _⟩
  have HE := Aside0.mk hW
  have HN := Aside0.mk (fun V (hV : Below W.heap.size W V) => norm_s hV hd)
  have HS := Aside0.mk (fun V (hV : Below W.heap.size W V) => norm_s hV hn)
  have HG := Aside0.mk (fun V (hV : Below W.heap.size W V) => gcd_s hV hn hd)
  have hv : ∃ x, decide (valid b (enc n) (enc d)) = x := ⟨_, rfl⟩
  obtain ⟨v, hv⟩ := hv
  have e1 := empty_enc n
  have e2 := empty_enc d
  have e3 := one_enc d
  have e4 := one_enc (Nat.gcd n d)
  obtain ⟨g, hg0⟩ : ∃ x, enc (Nat.gcd n d) = x := ⟨_, rfl⟩
  have hval : v = (if n = 0 then (!b && decide (d = 0)) else (decide (d = 0) || (!decide (d = 1) && decide (Nat.gcd n d = 1)))) := by
    rw [← hv, Bool.eq_iff_iff, decide_eq_true_iff]
    unfold valid
    rw [sv_enc, sv_enc]
    split <;> simp
  rw [hv]
  rw [hs0] at HS HG e1 ⊢
  rw [ht0] at HN HG e2 e3 ⊢
  rw [hg0] at HG e4
  have HV := Aside0.mk hval
  clear hB hW hs0 ht0 hg0 hv hval
  have hb1 : (s.toList == s.toList) = true := by rw [beq_self_eq_true]
  have hb2 : (t.toList == t.toList) = true := by rw [beq_self_eq_true]
  have E : Aside0 (s.toList.isEmpty = decide (n = 0) ∧ t.toList.isEmpty = decide (d = 0) ∧ (t.toList == [1]) = decide (d = 1) ∧ (g.toList == [1]) = decide (Nat.gcd n d = 1)) := ⟨⟨e1, e2, e3, e4⟩⟩
  clear e1 e2 e3 e4
  go_enter Tryd.func48, Tryd.ntmps48
  go_upto_region 1 with (fail)
  rw [HE.out]
  (refine wp_region_below (by kernel_rfl) (by kernel_rfl) ?_); (repeat (refine wpQuiet_step (fun K hK => ?_); go_simp; first | (refine hK _ ?_; clear hK K) | (apply Exists.intro; refine ⟨fun V hV => ?_, hK _ ?_⟩; (focus ((first | rfl | ((with_reducible exact HN.out _ hV)) | ((with_reducible exact HS.out _ hV)) | ((have kx := (HX.out.below hV)); have kc0 := kx.c0; have kc1 := kx.c1; have kc2 := kx.c2; clear kx; go_simp; first | rfl | fail)))); clear hK K))); (refine wpQuiet_nil ?_); (intro V hV)
  have kx := HX.out.below hV
  have kc0 := kx.c0
  have kc1 := kx.c1
  have kc2 := kx.c2
  clear kx
  have HVV : Aside0 (Below W.heap.size W V) := ⟨hV⟩
  go_wp2_with (go_at_call 50; (with_reducible refine (HG.out _ HVV.out).mono ?_); rintro e w1 ⟨rfl, hB⟩; have HB := Aside0.mk hB; have kx := (HX.out.below hB); have kc0 := kx.c0; have kc1 := kx.c1; have kc2 := kx.c2; have kf0 := kx.f0; have kf1 := kx.f1; have kf2 := kx.f2; clear kx; clear hB)
  all_goals go_ret
  all_goals refine ⟨?_, (by first | exact below_step HW.out hV | exact below_step HW.out HB.out)⟩
  all_goals
    obtain ⟨e1, e2, e3, e4⟩ := E.out
    refine congrArg Ending.returned (congrArg Value.bool ?_)
    rw [HV.out]
    simp_all

/-- Whether a number that comes in is valid. -/
theorem Valid_c {w0 w : World} {b : Bool} {s t : ByteArray} {N : Nat} (hB : Below w0.heap.size w0 w) (hF : FitS N s t) (hN : N ≤ 1073741824) :
    Calls Tryd.prog 48 #[.agg #[.bool b, .string s, .string t]] w fun e w' => e = .returned (.bool (decide (valid b s t))) ∧ Below w0.heap.size w0 w' := by
  have hs := hF.num
  have ht := hF.den
  by_cases h1 : s = enc (sv s)
  · by_cases h2 : t = enc (sv t)
    · have := valid_c (b := b) hB (n := sv s) (d := sv t) ⟨by have := nb_sv s; omega⟩ ⟨by have := nb_sv t; omega⟩
      rwa [← h1, ← h2] at this
    · have := valid_b (b := b) hB (n := sv s) ⟨by have := nb_sv s; omega⟩ (by omega) h2
      rw [← h1] at this
      rw [decide_eq_false (fun h => h2 h.2.1)]
      exact this
  · rw [decide_eq_false (fun h => h1 h.1)]
    exact valid_a hB (by omega) h1

set_option maxHeartbeats 2000000 in
set_option maxRecDepth 1000000 in
theorem clean_c {w0 w : World} {b : Bool} {s t : ByteArray} {N : Nat} (hB : Below w0.heap.size w0 w) (hF : FitS N s t) (hN : N ≤ 1073741824) :
    Calls Tryd.prog 25 #[.agg #[.bool b, .string s, .string t]] w fun e w' => e = .returned (rv (rval b s t)) ∧ Below w0.heap.size w0 w' := by
  obtain ⟨v, hv⟩ : ∃ v, decide (valid b s t) = v := ⟨_, rfl⟩
  have H0 := Aside0.mk hB
  obtain ⟨W, hW⟩ : ∃ W, (w.alloc (.cells #[.bool b, .string s, .string t] 27)).alloc (.cells #[.bool false, .string ⟨#[]⟩, .string ⟨#[]⟩] 27) = W := ⟨_, rfl⟩
  have HX : Aside0 (Bx W w.heap.size (.bool b) (.string s) (.string t)) := ⟨hW ▸ (Bx.alloc _ _ _ _ _).below (below_alloc (Below.refl _ _) _)⟩
  have HR : Aside0 (Bx W (w.heap.size + 1) (.bool false) (.string ⟨#[]⟩) (.string ⟨#[]⟩)) := ⟨by have := Bx.alloc (w.alloc (.cells #[.bool b, .string s, .string t] 27)) (.bool false) (.string ⟨#[]⟩) (.string ⟨#[]⟩) 27; rw [hW] at this; simpa using this⟩
  have HW : Aside0 (Below w0.heap.size w0 W) := ⟨hW ▸ below_alloc (below_alloc hB _) _⟩
  have HE := Aside0.mk hW
  have HC := Aside0.mk (fun V (hV : Below W.heap.size W V) => Valid_c (b := b) hV hF hN)
  rw [hv] at HC
  have Hv := Aside0.mk hv
  clear hB hW hv
  go_enter Tryd.func25, Tryd.ntmps25
  go_upto_region 1 with (fail)
  rw [HE.out]
  have kx := (HX.out); have kc0 := kx.c0; have kc1 := kx.c1; have kc2 := kx.c2; clear kx
  have HB : Aside0 (Below W.heap.size W W) := ⟨Below.refl _ _⟩
  go_wp2_with (go_at_call 48; (with_reducible refine (HC.out _ HB.out).mono ?_); rintro e w1 ⟨rfl, hB⟩; have HB := Aside0.mk hB; clear kc0 kc1 kc2; have kx := (HX.out.below hB); have kc0 := kx.c0; have kc1 := kx.c1; have kc2 := kx.c2; clear kx; have kr := HR.out.below hB; have kr0 := kr.c0; have kr1 := kr.c1; have kr2 := kr.c2; have kf0 := kr.f0; have kf1 := kr.f1; have kf2 := kr.f2; clear kr hB)
  all_goals (refine bodyPost_ret (results_bx rfl rfl (((HR.out.below HB.out).set _ _ _))) rfl ?_)
  all_goals refine ⟨?_, below_set (below_set (below_set (below_step HW.out HB.out) (by have := H0.out.size; omega)) (by have := H0.out.size; omega)) (by have := H0.out.size; omega)⟩
  · rename_i h
    have h1 : ¬ valid b s t := fun h2 => by rw [← Hv.out, decide_eq_true h2] at h; cases h
    unfold rval
    rw [if_neg h1, rv_zero]
  · rename_i h
    have h1 : valid b s t := by rw [← Hv.out] at h; simpa using h
    rw [rv_rval h1]
end Go.Proofs.YtiamgjepcagohaaDoor.P
end
section
/- Package rational: its walks. -/
namespace Go.Proofs.YtiamgjepcagohaaDoor.P
open Go Go.RowKit Go.Proofs.YtiamgjepcagohaaDoorW.PrintWords Go.Proofs.YtiamgjepcagohaaDoorW.PrintLast Go.Proofs.YtiamgjepcagohaaDoorW.PrintMore Go.Proofs.YtiamgjepcagohaaDoor.Ari

set_option maxHeartbeats 2000000 in
set_option maxRecDepth 1000000 in
theorem Multiply_c {w0 w : World} {b1 b2 : Bool} {s1 t1 s2 t2 : ByteArray} {N M : Nat} (hB : Below w0.heap.size w0 w) (h1 : FitS N s1 t1) (h2 : FitS M s2 t2) (hN : N + M ≤ 1073741824) :
    Calls Tryd.prog 10 #[.agg #[.bool b1, .string s1, .string t1], .agg #[.bool b2, .string s2, .string t2]] w fun e w' => e = .returned (rv (rval b1 s1 t1 * rval b2 s2 t2)) ∧ Below w0.heap.size w0 w' := by
  have H0 := Aside0.mk hB
  obtain ⟨W, hW, HX, HY, HR, hbW⟩ := box3 w (.bool b1) (.string s1) (.string t1) (.bool b2) (.string s2) (.string t2) 27
  have HW : Aside0 (Below w0.heap.size w0 W) := ⟨below_step hB hbW⟩
  have HE := Aside0.mk hW
  have HC := Aside0.mk (fun V (hV : Below W.heap.size W V) => clean_c (b := b1) hV h1 (by omega))
  have HD := Aside0.mk (fun V (hV : Below W.heap.size W V) => clean_c (b := b2) hV h2 (by omega))
  have F1 := Aside0.mk (h1.val (b := b1))
  have F2 := Aside0.mk (h2.val (b := b2))
  obtain ⟨p, hp⟩ : ∃ p, rval b1 s1 t1 = p := ⟨_, rfl⟩
  obtain ⟨q, hq⟩ : ∃ p, rval b2 s2 t2 = p := ⟨_, rfl⟩
  rw [hp] at HC F1 ⊢
  rw [hq] at HD F2 ⊢
  clear hB hW hbW hp hq
  go_enter Tryd.func10, Tryd.ntmps10
  go_upto_region 1 with (fail)
  rw [HE.out]
  (refine wp_region_below_tail 4 (by kernel_rfl) (by kernel_rfl) ?_); (simp only [List.take_succ_cons, List.take_zero, List.drop_succ_cons, List.drop_zero]); (repeat (refine wpQuiet_step (fun K hK => ?_); go_simp; first | (refine hK _ ?_; clear hK K) | (apply Exists.intro; refine ⟨fun V hV => ?_, hK _ ?_⟩; (focus ((first | rfl | ((with_reducible exact HC.out _ hV)) | ((with_reducible exact HD.out _ hV)) | ((have kx := (HX.out.below hV)); have kc0 := kx.c0; have kc1 := kx.c1; have kc2 := kx.c2; clear kx; (have kx := (HY.out.below hV)); have ke0 := kx.c0; have ke1 := kx.c1; have ke2 := kx.c2; clear kx; go_simp; first | rfl | fail)))); clear hK K))); (refine wpQuiet_nil ?_); (intro V hV)
  have kx := (HX.out.below hV); have kx0 := kx.c0; have kx1 := kx.c1; have kx2 := kx.c2; have fx0 := kx.f0; have fx1 := kx.f1; have fx2 := kx.f2; clear kx
  have kx := (HY.out.below hV); have ky0 := kx.c0; have ky1 := kx.c1; have ky2 := kx.c2; have fy0 := kx.f0; have fy1 := kx.f1; have fy2 := kx.f2; clear kx
  go_upto_region 2 with (fail)
  obtain ⟨W2, hW2, HX2, HY2, HR2, HW2⟩ := box_set2 HX HY HR hV HW H0.out.size (.bool (ngv p)) (.string (enc p.num.natAbs)) (.string (encD p.den)) (.bool (ngv q)) (.string (enc q.num.natAbs)) (.string (encD q.den))
  rw [hW2]
  have HE2 := Aside0.mk hW2
  have S1 : Sm p.num.natAbs := ⟨by have := F1.out.num; omega⟩
  have S2 : Sm q.num.natAbs := ⟨by have := F2.out.num; omega⟩
  have S3 : Sm p.den := ⟨by have := F1.out.den; omega⟩
  have S4 : Sm q.den := ⟨by have := F2.out.den; omega⟩
  have S5 : Sm (p.num.natAbs * q.num.natAbs) := ⟨Nat.le_trans (nb_mul_le F1.out.num F2.out.num) hN⟩
  have S6 : Sm (p.den * q.den) := ⟨Nat.le_trans (nb_mul_le F1.out.den F2.out.den) hN⟩
  have p1 := p.den_pos
  have p2 := q.den_pos
  have p3 := Nat.mul_pos p1 p2
  clear kx0 kx1 kx2 ky0 ky1 ky2 fx0 fx1 fx2 fy0 fy1 fy2 hV hW2 HX HY HR
  (refine wp_region_below_tail 16 (by kernel_rfl) (by kernel_rfl) ?_); (simp only [List.take_succ_cons, List.take_zero, List.drop_succ_cons, List.drop_zero]); (repeat (refine wpQuiet_step (fun K hK => ?_); go_simp; first | (refine hK _ ?_; clear hK K) | (apply Exists.intro; refine ⟨fun V hV => ?_, hK _ ?_⟩; (focus ((first | rfl | ((with_reducible exact den_c hV p1)) | ((with_reducible exact den_c hV p2)) | ((with_reducible exact mul_s hV S1 S2)) | ((with_reducible exact mul_s hV S3 S4)) | ((with_reducible exact reduced_c hV p3 S5 S6)) | ((have kx := (HX2.out.below hV)); have kc0 := kx.c0; have kc1 := kx.c1; have kc2 := kx.c2; clear kx; (have kx := (HY2.out.below hV)); have ke0 := kx.c0; have ke1 := kx.c1; have ke2 := kx.c2; clear kx; go_simp; first | rfl | fail)))); clear hK K))); (refine wpQuiet_nil ?_); (intro V hV)
  have kx := (HR2.out.below hV); have kx0 := kx.c0; have kx1 := kx.c1; have kx2 := kx.c2; have fx0 := kx.f0; have fx1 := kx.f1; have fx2 := kx.f2; clear kx
  go_wp2
  refine bodyPost_ret (results_bx rfl rfl (((HR2.out.below hV).set _ _ _))) rfl ?_
  refine ⟨?_, below_set3 (below_step HW2.out hV) (by have := H0.out.size; omega)⟩
  rw [← mul_eq]
  rfl

set_option maxHeartbeats 2000000 in
set_option maxRecDepth 1000000 in
theorem negate_c {w0 w : World} {q : Rat} (hB : Below w0.heap.size w0 w) :
    Calls Tryd.prog 35 #[.agg #[.bool (ngv q), .string (enc q.num.natAbs), .string (encD q.den)]] w fun e w' => e = .returned (rv (-q)) ∧ Below w0.heap.size w0 w' := by
  have H0 := Aside0.mk hB; obtain ⟨W, hW, HX, HR, hbW⟩ := box2 w (.bool (ngv q)) (.string (enc q.num.natAbs)) (.string (encD q.den)) 27; have HW : Aside0 (Below w0.heap.size w0 W) := ⟨below_step hB hbW⟩; have HE := Aside0.mk hW
  have he := empty_enc q.num.natAbs
  have hv := @rv_neg q
  obtain ⟨s, hs⟩ : ∃ s, enc q.num.natAbs = s := ⟨_, rfl⟩
  obtain ⟨t, ht⟩ : ∃ s, encD q.den = s := ⟨_, rfl⟩
  rw [hs] at he HX HE hv ⊢
  rw [ht] at HX HE hv ⊢
  have He := Aside0.mk he
  have Hv := Aside0.mk hv
  obtain ⟨b, hb⟩ : ∃ b, ngv q = b := ⟨_, rfl⟩
  rw [hb] at HX HE Hv ⊢
  have Hb := Aside0.mk hb
  clear hB hW hbW hs he hb ht hv
  go_enter Tryd.func35, Tryd.ntmps35
  go_upto_region 1 with (fail)
  rw [HE.out]
  have kx := (HX.out); have kx0 := kx.c0; have kx1 := kx.c1; have kx2 := kx.c2; have fx0 := kx.f0; have fx1 := kx.f1; have fx2 := kx.f2; clear kx
  have kx := (HR.out); have kr0 := kx.c0; have kr1 := kx.c1; have kr2 := kx.c2; have fr0 := kx.f0; have fr1 := kx.f1; have fr2 := kx.f2; clear kx
  go_wp2
  all_goals
    refine bodyPost_ret (results_bx rfl rfl ((HR.out.other (j := 0) (by omega)).set _ _ _)) rfl ?_
    refine ⟨?_, below_set3 (below_set HW.out H0.out.size) (by have := H0.out.size; omega)⟩
    rw [Hv.out]
    have h1 := He.out
    simp_all

set_option maxHeartbeats 2000000 in
set_option maxRecDepth 1000000 in
theorem Negate_c {w0 w : World} {b : Bool} {s t : ByteArray} {N : Nat} (hB : Below w0.heap.size w0 w) (h1 : FitS N s t) (hN : N ≤ 1073741824) :
    Calls Tryd.prog 16 #[.agg #[.bool b, .string s, .string t]] w fun e w' => e = .returned (rv (-rval b s t)) ∧ Below w0.heap.size w0 w' := by
  have H0 := Aside0.mk hB; obtain ⟨W, hW, HX, HR, hbW⟩ := box2 w (.bool b) (.string s) (.string t) 27; have HW : Aside0 (Below w0.heap.size w0 W) := ⟨below_step hB hbW⟩; have HE := Aside0.mk hW
  have HC := Aside0.mk (fun V (hV : Below W.heap.size W V) => clean_c (b := b) hV h1 (by omega))
  obtain ⟨p, hp⟩ : ∃ p, rval b s t = p := ⟨_, rfl⟩
  have HG := Aside0.mk (fun V (hV : Below W.heap.size W V) => negate_c (q := p) hV)
  obtain ⟨r, hr⟩ : ∃ r, -p = r := ⟨_, rfl⟩
  rw [hp] at HC ⊢
  rw [hr] at HG ⊢
  clear hB hW hbW hp hr
  go_enter Tryd.func16, Tryd.ntmps16
  go_upto_region 1 with (fail)
  rw [HE.out]
  have kx := (HX.out); have kx0 := kx.c0; have kx1 := kx.c1; have kx2 := kx.c2; have fx0 := kx.f0; have fx1 := kx.f1; have fx2 := kx.f2; clear kx
  have HB : Aside0 (Below W.heap.size W W) := ⟨Below.refl _ _⟩
  go_wp2_with (first | (go_at_call 25; (with_reducible refine (HC.out _ HB.out).mono ?_); rintro e w1 ⟨rfl, hB⟩; have HB1 := Aside0.mk hB; clear hB) | (go_at_call 35; (with_reducible refine (HG.out _ HB1.out).mono ?_); rintro e w1 ⟨rfl, hB⟩; have HB2 := Aside0.mk hB; have kx := (HR.out.below hB); have kr0 := kx.c0; have kr1 := kx.c1; have kr2 := kx.c2; have fr0 := kx.f0; have fr1 := kx.f1; have fr2 := kx.f2; clear kx; clear hB))
  refine bodyPost_ret (results_bx rfl rfl ((HR.out.below HB2.out).set _ _ _)) rfl ?_
  exact ⟨rfl, below_set3 (below_step HW.out HB2.out) (by have := H0.out.size; omega)⟩

set_option maxHeartbeats 2000000 in
set_option maxRecDepth 1000000 in
theorem Make_pos {w0 w : World} {b : Bool} {n d : Nat} (hB : Below w0.heap.size w0 w) (hd : 0 < d) (hn : Sm n) (hds : Sm d) :
    Calls Tryd.prog 42 #[.bool b, .string (enc n), .string (enc d)] w fun e w' => e = .returned (.tuple #[rv (qq b n d), .bool true]) ∧ Below w0.heap.size w0 w' := by
  have H0 := Aside0.mk hB
  obtain ⟨W, hW, HR, hbW⟩ := boxR w 27
  have HW : Aside0 (Below w0.heap.size w0 W) := ⟨below_step hB hbW⟩
  have HE := Aside0.mk hW
  have HC := Aside0.mk (fun V (hV : Below W.heap.size W V) => norm_s hV hds)
  have HD := Aside0.mk (fun V (hV : Below W.heap.size W V) => reduced_c (b := b) hV hd hn hds)
  obtain ⟨q, hq⟩ : ∃ q, qq b n d = q := ⟨_, rfl⟩
  have he := empty_enc d
  rw [decide_eq_false (by omega)] at he
  obtain ⟨s, hs⟩ : ∃ s, enc d = s := ⟨_, rfl⟩
  rw [hq] at HD ⊢
  rw [hs] at he HC HD ⊢
  clear hB hW hbW hq hs
  go_enter Tryd.func42, Tryd.ntmps42
  go_upto_region 1 with (fail)
  rw [HE.out]
  have HB : Aside0 (Below W.heap.size W W) := ⟨Below.refl _ _⟩
  go_wp2_with (first | (go_at_call 49; (with_reducible refine (HC.out _ HB.out).mono ?_); rintro e w1 ⟨rfl, hB⟩; have HB1 := Aside0.mk hB; clear hB) | (go_at_call 26; (with_reducible refine (HD.out _ HB1.out).mono ?_); rintro e w1 ⟨rfl, hB⟩; have HB2 := Aside0.mk hB; have kx := (HR.out.below hB); have kr0 := kx.c0; have kr1 := kx.c1; have kr2 := kx.c2; have fr0 := kx.f0; have fr1 := kx.f1; have fr2 := kx.f2; clear kx; clear hB))
  refine bodyPost_ret (results_bx_tmp rfl rfl ((HR.out.below HB2.out).set _ _ _)) rfl ?_
  exact ⟨rfl, below_set3 (below_step HW.out HB2.out) (by have := H0.out.size; omega)⟩

/-! magnitude, Int -/
theorem mag_neg {n : Int} (h : n < 0) (hn : -9223372036854775808 ≤ n) : IntKind.u64.wrap (-(IntKind.u64.wrap n)) = (n.natAbs : Int) := by
  rw [u64m, u64m]
  omega
theorem mag_pos {n : Int} (h : 0 ≤ n) (hn : n < 9223372036854775808) : IntKind.u64.wrap n = (n.natAbs : Int) := by
  rw [u64m]
  omega
set_option maxHeartbeats 2000000 in
set_option maxRecDepth 1000000 in
theorem magnitude_c {w0 w : World} {n : Int} (hB : Below w0.heap.size w0 w) (h0 : -9223372036854775808 ≤ n) (h1 : n < 9223372036854775808) :
    Calls Tryd.prog 58 #[.int .i64 n] w fun e w' => e = .returned (.string (enc n.natAbs)) ∧ Below w0.heap.size w0 w' := by
  have HC := Aside0.mk (fun V (hV : Below w0.heap.size w0 V) => fromUint_s hV (u := n.natAbs) (by omega))
  have HB := Aside0.mk hB
  obtain ⟨m, hm⟩ : ∃ m : Int, (n.natAbs : Int) = m := ⟨_, rfl⟩
  have hm1 : n < 0 → IntKind.u64.wrap (-(IntKind.u64.wrap n)) = m := fun h => by rw [← hm]; exact mag_neg h h0
  have hm2 : 0 ≤ n → IntKind.u64.wrap n = m := fun h => by rw [← hm]; exact mag_pos h h1
  obtain ⟨s, hs⟩ : ∃ s, enc n.natAbs = s := ⟨_, rfl⟩
  rw [hm, hs] at HC
  rw [hs]
  clear hB hm hs
  by_cases hlt : n < 0
  · have hm3 := hm1 hlt
    clear hm1 hm2
    go_enter Tryd.func58, Tryd.ntmps58
    go_wp2_with (go_at_call 38; (with_reducible refine (HC.out _ HB.out).mono ?_); rintro e w1 ⟨rfl, hB⟩; have HB1 := Aside0.mk hB; clear hB)
    go_ret
    exact ⟨rfl, HB1.out⟩
  · have hm3 := hm2 (by omega)
    clear hm1 hm2
    go_enter Tryd.func58, Tryd.ntmps58
    go_wp2_with (go_at_call 38; (with_reducible refine (HC.out _ HB.out).mono ?_); rintro e w1 ⟨rfl, hB⟩; have HB1 := Aside0.mk hB; clear hB)
    go_ret
    exact ⟨rfl, HB1.out⟩

set_option maxHeartbeats 2000000 in
set_option maxRecDepth 1000000 in
theorem Int_c {w0 w : World} {n : Int} (hB : Below w0.heap.size w0 w) (h0 : -9223372036854775808 ≤ n) (h1 : n < 9223372036854775808) :
    Calls Tryd.prog 32 #[.int .i64 n] w fun e w' => e = .returned (rv (n : Rat)) ∧ Below w0.heap.size w0 w' := by
  have H0 := Aside0.mk hB
  obtain ⟨W, hW, HR, hbW⟩ := boxR w 27
  have HW : Aside0 (Below w0.heap.size w0 W) := ⟨below_step hB hbW⟩
  have HE := Aside0.mk hW
  have HC := Aside0.mk (fun V (hV : Below W.heap.size W V) => magnitude_c hV h0 h1)
  have HD := Aside0.mk (fun V (hV : Below W.heap.size W V) => reduced_c (b := decide (n < 0)) (n := n.natAbs) (d := 1) hV (by decide) ⟨Nat.le_trans (nb_le (L := 9) (by omega)) (by decide)⟩ ⟨by rw [nb_one]; decide⟩)
  have hq : qq (decide (n < 0)) n.natAbs 1 = (n : Rat) := by
    have := qq_self (n : Rat)
    rwa [show ngv (n : Rat) = decide (n < 0) from rfl, Rat.num_intCast, Rat.den_intCast] at this
  obtain ⟨q, hq2⟩ : ∃ q : Rat, (n : Rat) = q := ⟨_, rfl⟩
  rw [hq, hq2, enc_one] at HD
  rw [hq2]
  obtain ⟨s, hs⟩ : ∃ s, enc n.natAbs = s := ⟨_, rfl⟩
  rw [hs] at HC HD
  clear hB hW hbW hq hq2 hs
  go_enter Tryd.func32, Tryd.ntmps32
  go_upto_region 1 with (fail)
  rw [HE.out]
  have HB : Aside0 (Below W.heap.size W W) := ⟨Below.refl _ _⟩
  go_wp2_with (first | (go_at_call 58; (with_reducible refine (HC.out _ HB.out).mono ?_); rintro e w1 ⟨rfl, hB⟩; have HB1 := Aside0.mk hB; clear hB) | (go_at_call 26; (with_reducible refine (HD.out _ HB1.out).mono ?_); rintro e w1 ⟨rfl, hB⟩; have HB2 := Aside0.mk hB; have kx := (HR.out.below hB); have kr0 := kx.c0; have kr1 := kx.c1; have kr2 := kx.c2; have fr0 := kx.f0; have fr1 := kx.f1; have fr2 := kx.f2; clear kx; clear hB))
  refine bodyPost_ret (results_bx rfl rfl ((HR.out.below HB2.out).set _ _ _)) rfl ?_
  exact ⟨rfl, below_set3 (below_step HW.out HB2.out) (by have := H0.out.size; omega)⟩
end Go.Proofs.YtiamgjepcagohaaDoor.P
end
