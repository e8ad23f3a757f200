/- ExprmergeAgain: the plain law and the walk. -/
import Derived.Test.YtiagjpiclnmpkaaDoorLwE
namespace Go.Proofs.YtiagjpiclnmpkaaDoor
open Go.RowKit

theorem confL_mem {l : List Ex} (h : confL l = 0) : ∀ t ∈ l, confE t = 0 := by
  induction l with
  | nil => intro t ht; cases ht
  | cons a l ih =>
    simp only [confL] at h
    intro t ht
    rcases List.mem_cons.1 ht with rfl | ht
    · omega
    · exact ih (by omega) t ht
theorem confE_sum (l b r : Ex) : confE (sumE l b r) ≠ 0 := by unfold sumE; rw [confE, if_pos rfl]; omega
theorem alike_sub {a b : Ex} (h : alikeE a b = true) (hs : b.sub = a.sub) : b = a := by
  obtain ⟨h1, h2, h3, h4, h5, _⟩ := (alikeE_iff _ _).1 h
  cases a; cases b
  simp only [Ex.kind, Ex.name, Ex.more, Ex.int, Ex.den, Ex.sub] at *
  subst h1 h2 h3 h4 h5 hs; rfl
mutual
theorem mergeE_base : ∀ b l r : Ex, confE (mergeE b l r) = 0 → mergeE b l r = b → l = b ∧ r = b
  | .mk k n m i d s, l, r, hc, he => by
    rw [mergeE] at hc he
    split at he
    · rename_i h1
      rw [if_pos h1] at hc
      rcases Bool.or_eq_true _ _ |>.mp h1 with h | h
      · have := (sameE_iff _ _).1 h; exact ⟨he, this ▸ he⟩
      · exact ⟨he, (sameE_iff _ _).1 h⟩
    · rename_i h1
      rw [if_neg h1] at hc
      split at he
      · rename_i h2
        exact ⟨(sameE_iff _ _).1 h2, he⟩
      · rename_i h2
        rw [if_neg h2] at hc
        split at he
        · rename_i h3
          rw [if_pos h3] at hc
          have hl : mergeL s l.sub r.sub = s := by simpa using he
          simp only [partsB, Bool.and_eq_true] at h3
          obtain ⟨⟨⟨ha, hb⟩, _⟩, _⟩ := h3
          have la := ((alikeE_iff _ _).1 ha).2.2.2.2.2
          have lb := ((alikeE_iff _ _).1 hb).2.2.2.2.2
          have hc' : confL (mergeL s l.sub r.sub) = 0 := by simp only [confE] at hc; omega
          obtain ⟨e1, e2⟩ := mergeL_base s l.sub r.sub (by simpa [Ex.sub] using la) (by simpa [Ex.sub] using lb) hc' hl
          exact ⟨alike_sub ha e1, alike_sub hb e2⟩
        · rename_i h3
          rw [if_neg h3] at hc
          exact absurd hc (confE_sum _ _ _)
theorem mergeL_base : ∀ b l r : List Ex, b.length = l.length → b.length = r.length → confL (mergeL b l r) = 0 → mergeL b l r = b → l = b ∧ r = b
  | [], l, r, h1, h2, _, _ => by cases l <;> cases r <;> simp_all
  | b :: bs, l :: ls, r :: rs, h1, h2, hc, he => by
    simp only [mergeL, confL] at hc
    simp only [mergeL, List.cons.injEq] at he
    obtain ⟨e1, e2⟩ := mergeE_base b l r (by omega) he.1
    obtain ⟨e3, e4⟩ := mergeL_base bs ls rs (by simpa using h1) (by simpa using h2) (by omega) he.2
    exact ⟨by rw [e1, e3], by rw [e2, e4]⟩
  | b :: bs, [], r, h1, _, _, _ => by simp at h1
  | b :: bs, l :: ls, [], _, h2, _, _ => by simp at h2
end
mutual
theorem mergeE_againL : ∀ b l r : Ex, confE (mergeE b l r) = 0 → mergeE b (mergeE b l r) r = mergeE b l r
  | .mk k n m i d s, l, r, hc => by
    by_cases hb : mergeE (.mk k n m i d s) l r = .mk k n m i d s
    · obtain ⟨e1, e2⟩ := mergeE_base _ _ _ hc hb
      rw [hb, e2, mergeE_both]
    · by_cases h1 : (sameE l r || sameE r (.mk k n m i d s)) = true
      · have : mergeE (.mk k n m i d s) l r = l := by rw [mergeE, if_pos h1]
        rw [this, this]
      · by_cases h2 : sameE l (.mk k n m i d s) = true
        · have : mergeE (.mk k n m i d s) l r = r := by rw [mergeE, if_neg h1, if_pos h2]
          rw [this, mergeE_both]
        · by_cases h3 : partsB (.mk k n m i d s) l r = true
          · have hm : mergeE (.mk k n m i d s) l r = .mk k n m i d (mergeL s l.sub r.sub) := by rw [mergeE, if_neg h1, if_neg h2, if_pos h3]
            rw [hm] at hc hb ⊢
            have h3' := h3
            simp only [partsB, Bool.and_eq_true, decide_eq_true_eq] at h3
            obtain ⟨⟨⟨ha, hb'⟩, hk⟩, hl⟩ := h3
            have la : s.length = l.sub.length := ((alikeE_iff _ _).1 ha).2.2.2.2.2
            have lb : s.length = r.sub.length := ((alikeE_iff _ _).1 hb').2.2.2.2.2
            have ih := mergeL_againL s l.sub r.sub la lb (by simp only [confE] at hc; omega)
            by_cases hr : (Ex.mk k n m i d (mergeL s l.sub r.sub)) = r
            · rw [hr, mergeE_both]
            · have n1 : ¬ (sameE (.mk k n m i d (mergeL s l.sub r.sub)) r || sameE r (.mk k n m i d s)) = true := by
                simp only [Bool.or_eq_true, not_or] at h1 ⊢
                exact ⟨by rw [sameE_false hr]; simp, h1.2⟩
              have n2 : ¬ sameE (.mk k n m i d (mergeL s l.sub r.sub)) (.mk k n m i d s) = true := by rw [sameE_false hb]; simp
              have n3 : partsB (.mk k n m i d s) (.mk k n m i d (mergeL s l.sub r.sub)) r = true := by
                have hlen := mergeL_length s l.sub r.sub la lb
                simp only [partsB, Bool.and_eq_true, decide_eq_true_eq]
                exact ⟨⟨⟨(alikeE_iff _ _).2 ⟨rfl, rfl, rfl, rfl, rfl, hlen.symm⟩, hb'⟩, hk⟩, hl⟩
              rw [mergeE, if_neg n1, if_neg n2, if_pos n3]
              simp only [Ex.sub]
              exact congrArg _ ih
          · have hm : mergeE (.mk k n m i d s) l r = sumE l (.mk k n m i d s) r := by rw [mergeE, if_neg h1, if_neg h2, if_neg h3]
            rw [hm] at hc
            exact absurd hc (confE_sum _ _ _)
theorem mergeL_againL : ∀ b l r : List Ex, b.length = l.length → b.length = r.length → confL (mergeL b l r) = 0 → mergeL b (mergeL b l r) r = mergeL b l r
  | [], l, r, h1, h2, _ => by cases l <;> cases r <;> simp_all [mergeL]
  | b :: bs, l :: ls, r :: rs, h1, h2, hc => by
    simp only [mergeL, confL] at hc ⊢
    rw [mergeE_againL b l r (by omega), mergeL_againL bs ls rs (by simpa using h1) (by simpa using h2) (by omega)]
  | b :: bs, [], r, h1, _, _ => by simp at h1
  | b :: bs, l :: ls, [], _, h2, _ => by simp at h2
end
mutual
theorem mergeE_againR : ∀ b l r : Ex, confE (mergeE b l r) = 0 → mergeE b l (mergeE b l r) = mergeE b l r
  | .mk k n m i d s, l, r, hc => by
    by_cases hb : mergeE (.mk k n m i d s) l r = .mk k n m i d s
    · obtain ⟨e1, e2⟩ := mergeE_base _ _ _ hc hb
      rw [hb, e1, mergeE_both]
    · by_cases h1 : (sameE l r || sameE r (.mk k n m i d s)) = true
      · have : mergeE (.mk k n m i d s) l r = l := by rw [mergeE, if_pos h1]
        rw [this, mergeE_both]
      · by_cases h2 : sameE l (.mk k n m i d s) = true
        · have : mergeE (.mk k n m i d s) l r = r := by rw [mergeE, if_neg h1, if_pos h2]
          rw [this, this]
        · by_cases h3 : partsB (.mk k n m i d s) l r = true
          · have hm : mergeE (.mk k n m i d s) l r = .mk k n m i d (mergeL s l.sub r.sub) := by rw [mergeE, if_neg h1, if_neg h2, if_pos h3]
            rw [hm] at hc hb ⊢
            simp only [partsB, Bool.and_eq_true, decide_eq_true_eq] at h3
            obtain ⟨⟨⟨ha, hb'⟩, hk⟩, hl⟩ := h3
            have la : s.length = l.sub.length := ((alikeE_iff _ _).1 ha).2.2.2.2.2
            have lb : s.length = r.sub.length := ((alikeE_iff _ _).1 hb').2.2.2.2.2
            have ih := mergeL_againR s l.sub r.sub la lb (by simp only [confE] at hc; omega)
            by_cases hr : l = (Ex.mk k n m i d (mergeL s l.sub r.sub))
            · rw [← hr, mergeE_both]
            · have n1 : ¬ (sameE l (.mk k n m i d (mergeL s l.sub r.sub)) || sameE (.mk k n m i d (mergeL s l.sub r.sub)) (.mk k n m i d s)) = true := by
                rw [sameE_false hr, sameE_false hb]; simp
              have n3 : partsB (.mk k n m i d s) l (.mk k n m i d (mergeL s l.sub r.sub)) = true := by
                have hlen := mergeL_length s l.sub r.sub la lb
                simp only [partsB, Bool.and_eq_true, decide_eq_true_eq]
                exact ⟨⟨⟨ha, (alikeE_iff _ _).2 ⟨rfl, rfl, rfl, rfl, rfl, hlen.symm⟩⟩, hk⟩, hl⟩
              rw [mergeE, if_neg n1, if_neg h2, if_pos n3]
              simp only [Ex.sub]
              exact congrArg _ ih
          · have hm : mergeE (.mk k n m i d s) l r = sumE l (.mk k n m i d s) r := by rw [mergeE, if_neg h1, if_neg h2, if_neg h3]
            rw [hm] at hc
            exact absurd hc (confE_sum _ _ _)
theorem mergeL_againR : ∀ b l r : List Ex, b.length = l.length → b.length = r.length → confL (mergeL b l r) = 0 → mergeL b l (mergeL b l r) = mergeL b l r
  | [], l, r, h1, h2, _ => by cases l <;> cases r <;> simp_all [mergeL]
  | b :: bs, l :: ls, r :: rs, h1, h2, hc => by
    simp only [mergeL, confL] at hc ⊢
    rw [mergeE_againR b l r (by omega), mergeL_againR bs ls rs (by simpa using h1) (by simpa using h2) (by omega)]
  | b :: bs, [], r, h1, _, _ => by simp at h1
  | b :: bs, l :: ls, [], _, h2, _ => by simp at h2
end
theorem unfine_no {t : Ex} (h : unfineE t = false) : nodesE t ≤ 40 ∧ checkX t = 0 ∧ confE t = 0 := by
  simp only [unfineE, Bool.or_eq_false_iff, decide_eq_false_iff_not, Classical.not_not, Bool.not_eq_false', beq_iff_eq] at h
  exact ⟨greatE_nodes h.1.1, h.1.2, h.2⟩
theorem mergeX_fine {b l r : Ex} (hb : checkX b = 0) (hl : checkX l = 0) (hr : checkX r = 0) : (mergeX b l r = (mergeE b l r, 0) ∧ checkX (mergeE b l r) = 0) ∨ (mergeX b l r = (zeroEx, 4) ∧ checkX (mergeE b l r) ≠ 0) := by
  by_cases h : checkX (mergeE b l r) = 0
  · exact .inl ⟨mergeX_ok hb hl hr h rfl, h⟩
  · refine .inr ⟨?_, h⟩
    unfold mergeX
    simp [hb, hl, hr, h]
set_option maxRecDepth 100000 in
set_option maxHeartbeats 4000000 in
theorem lawAgain_x {b l r : Ex} {xb xl xr : XV} {w : World} (hb : XAt w b xb) (hl : XAt w l xl) (hr : XAt w r xr) (hsz : nodesE b + nodesE l + nodesE r ≤ 1048576) :
    Calls Tryd.prog 7 #[.agg xb.arr, .agg xl.arr, .agg xr.arr] w fun e w' => e = .returned (.bool true) ∧ Below w.heap.size w w' := by
  obtain ⟨W, hW, hF, hS⟩ := f3_start hb hl hr
  have HG := Lib.hid (fine_x hS (by simp only [nodesL]; omega))
  have HW := Lib.hid hW
  have HE := Lib.hid hF.below
  have HB0 := Lib.hid hF.b
  have HB1 := Lib.hid hF.l
  have HB2 := Lib.hid hF.r
  have HX0 := Lib.hid hF.hb
  have HX1 := Lib.hid hF.hl
  have HX2 := Lib.hid hF.hr
  clear hW hF hS hb hl hr
  obtain ⟨g, hg⟩ : ∃ g, anyE unfineE [b, l, r] = g := ⟨_, rfl⟩
  rw [hg] at HG
  have HGG := Lib.hid hg
  clear hg
  go_enter Tryd.func7, Tryd.ntmps7
  go_wp2_with fail
  rw [HW.out]
  refine (HG.out).mono ?_
  rintro e V0 ⟨rfl, h0⟩
  have C0_0 := Lib.hid (HB0.out.kept h0)
  have z0_0 : w.heap.size < V0.heap.size := C0_0.out.lt
  have X0_0 := Lib.hid (HX0.out.kept h0)
  have C0_1 := Lib.hid (HB1.out.kept h0)
  have z0_1 : w.heap.size + 1 < V0.heap.size := C0_1.out.lt
  have X0_1 := Lib.hid (HX1.out.kept h0)
  have C0_2 := Lib.hid (HB2.out.kept h0)
  have z0_2 : w.heap.size + 1 + 1 < V0.heap.size := C0_2.out.lt
  have X0_2 := Lib.hid (HX2.out.kept h0)
  have E0 : Hid (Below w.heap.size w V0) := Lib.hid (HE.out.trans (h0.mono HE.out.size))
  clear h0
  cases g with
  | true =>
    go_wp2_with fail
    refine (awake_x _).mono ?_
    rintro e Z ⟨rfl, hz⟩
    go_wp2_with fail
    go_ret
    exact ⟨rfl, E0.out.trans (hz.mono E0.out.size)⟩
  | false =>
    obtain ⟨hn0, hc0, _⟩ := unfine_no (anyE_mem HGG.out b (by simp))
    have HC0 := Lib.hid hc0
    obtain ⟨hn1, hc1, _⟩ := unfine_no (anyE_mem HGG.out l (by simp))
    have HC1 := Lib.hid hc1
    obtain ⟨hn2, hc2, _⟩ := unfine_no (anyE_mem HGG.out r (by simp))
    have HC2 := Lib.hid hc2
    have HMN := Lib.hid (mergeE_nodes b l r)
    have HAL := Lib.hid (mergeE_againL b l r)
    have HAR := Lib.hid (mergeE_againR b l r)
    have HF := Lib.hid (mergeX_fine hc0 hc1 hc2)
    have HM := Lib.hid (mMerge_x X0_0.out X0_1.out X0_2.out (by omega))
    clear hc0 hc1 hc2
    rcases HF.out with ⟨hq, hcm⟩ | ⟨hq, _⟩
    rotate_left
    · obtain ⟨y1_0_0, y1_0_1, y1_0_2, y1_0_3, y1_0_4, y1_0_5⟩ := C0_0.out.cells
      obtain ⟨y1_1_0, y1_1_1, y1_1_2, y1_1_3, y1_1_4, y1_1_5⟩ := C0_1.out.cells
      obtain ⟨y1_2_0, y1_2_1, y1_2_2, y1_2_3, y1_2_4, y1_2_5⟩ := C0_2.out.cells
      have K1 := Lib.hid (HM.out)
      rw [hq] at K1
      go_wp2_with fail
      refine (K1.out).mono ?_
      rintro e V1 ⟨x1, rfl, g1, h1⟩
      clear y1_0_0 y1_0_1 y1_0_2 y1_0_3 y1_0_4 y1_0_5 y1_1_0 y1_1_1 y1_1_2 y1_1_3 y1_1_4 y1_1_5 y1_2_0 y1_2_1 y1_2_2 y1_2_3 y1_2_4 y1_2_5
      have C1_0 := Lib.hid (C0_0.out.kept h1)
      have z1_0 : w.heap.size < V1.heap.size := C1_0.out.lt
      have B1_0 := Lib.hid (C1_0.out.alloc (.cells x1.arr 24))
      have X1_0 := Lib.hid ((X0_0.out.kept h1).alloc (.cells x1.arr 24))
      have C1_1 := Lib.hid (C0_1.out.kept h1)
      have z1_1 : w.heap.size + 1 < V1.heap.size := C1_1.out.lt
      have B1_1 := Lib.hid (C1_1.out.alloc (.cells x1.arr 24))
      have X1_1 := Lib.hid ((X0_1.out.kept h1).alloc (.cells x1.arr 24))
      have C1_2 := Lib.hid (C0_2.out.kept h1)
      have z1_2 : w.heap.size + 1 + 1 < V1.heap.size := C1_2.out.lt
      have B1_2 := Lib.hid (C1_2.out.alloc (.cells x1.arr 24))
      have X1_2 := Lib.hid ((X0_2.out.kept h1).alloc (.cells x1.arr 24))
      have E1 : Hid (Below w.heap.size w (V1.alloc (.cells x1.arr 24))) := Lib.hid ((E0.out.trans (h1.mono E0.out.size)).alloc (E0.out.trans (h1.mono E0.out.size)).size _)
      have B1_n := Lib.hid (Bx.new V1 x1)
      have X1_n : Hid (XAt (V1.alloc (.cells x1.arr 24)) zeroEx x1) := Lib.hid (g1.alloc (.cells x1.arr 24))
      clear g1
      clear h1
      go_wp2_with fail
      refine (awake_x _).mono ?_
      rintro e Z ⟨rfl, hz⟩
      go_wp2_with fail
      go_ret
      exact ⟨rfl, E1.out.trans (hz.mono E1.out.size)⟩
    obtain ⟨m, hm⟩ : ∃ m, mergeE b l r = m := ⟨_, rfl⟩
    rw [hm] at hcm hq HAL HAR HMN
    have HCM := Lib.hid hcm
    have HQ := Lib.hid hq
    clear hcm hq hm HF
    have hnm := HMN.out
    obtain ⟨y1_0_0, y1_0_1, y1_0_2, y1_0_3, y1_0_4, y1_0_5⟩ := C0_0.out.cells
    obtain ⟨y1_1_0, y1_1_1, y1_1_2, y1_1_3, y1_1_4, y1_1_5⟩ := C0_1.out.cells
    obtain ⟨y1_2_0, y1_2_1, y1_2_2, y1_2_3, y1_2_4, y1_2_5⟩ := C0_2.out.cells
    have K1 := Lib.hid (HM.out)
    rw [HQ.out] at K1
    go_wp2_with fail
    refine (K1.out).mono ?_
    rintro e V1 ⟨x1, rfl, g1, h1⟩
    clear y1_0_0 y1_0_1 y1_0_2 y1_0_3 y1_0_4 y1_0_5 y1_1_0 y1_1_1 y1_1_2 y1_1_3 y1_1_4 y1_1_5 y1_2_0 y1_2_1 y1_2_2 y1_2_3 y1_2_4 y1_2_5
    have C1_0 := Lib.hid (C0_0.out.kept h1)
    have z1_0 : w.heap.size < V1.heap.size := C1_0.out.lt
    have B1_0 := Lib.hid (C1_0.out.alloc (.cells x1.arr 24))
    have X1_0 := Lib.hid ((X0_0.out.kept h1).alloc (.cells x1.arr 24))
    have C1_1 := Lib.hid (C0_1.out.kept h1)
    have z1_1 : w.heap.size + 1 < V1.heap.size := C1_1.out.lt
    have B1_1 := Lib.hid (C1_1.out.alloc (.cells x1.arr 24))
    have X1_1 := Lib.hid ((X0_1.out.kept h1).alloc (.cells x1.arr 24))
    have C1_2 := Lib.hid (C0_2.out.kept h1)
    have z1_2 : w.heap.size + 1 + 1 < V1.heap.size := C1_2.out.lt
    have B1_2 := Lib.hid (C1_2.out.alloc (.cells x1.arr 24))
    have X1_2 := Lib.hid ((X0_2.out.kept h1).alloc (.cells x1.arr 24))
    have E1 : Hid (Below w.heap.size w (V1.alloc (.cells x1.arr 24))) := Lib.hid ((E0.out.trans (h1.mono E0.out.size)).alloc (E0.out.trans (h1.mono E0.out.size)).size _)
    have B1_n := Lib.hid (Bx.new V1 x1)
    have X1_n : Hid (XAt (V1.alloc (.cells x1.arr 24)) m x1) := Lib.hid (g1.alloc (.cells x1.arr 24))
    clear g1
    clear h1
    obtain ⟨d, hd⟩ : ∃ d, (confE m == 0) = d := ⟨_, rfl⟩
    have HD := Lib.hid hd
    clear hd
    cases d
    · have K2 := Lib.hid (mClean_x X1_n.out (by omega))
      rw [HD.out] at K2
      go_wp2_with fail
      refine (K2.out).mono ?_
      rintro e V2 ⟨rfl, h2⟩
      have C2_0 := Lib.hid (B1_0.out.kept h2)
      have z2_0 : w.heap.size < V2.heap.size := C2_0.out.lt
      have X2_0 := Lib.hid (X1_0.out.kept h2)
      have C2_1 := Lib.hid (B1_1.out.kept h2)
      have z2_1 : w.heap.size + 1 < V2.heap.size := C2_1.out.lt
      have X2_1 := Lib.hid (X1_1.out.kept h2)
      have C2_2 := Lib.hid (B1_2.out.kept h2)
      have z2_2 : w.heap.size + 1 + 1 < V2.heap.size := C2_2.out.lt
      have X2_2 := Lib.hid (X1_2.out.kept h2)
      have C2_3 := Lib.hid (B1_n.out.kept h2)
      have z2_3 : V1.heap.size < V2.heap.size := C2_3.out.lt
      have X2_3 := Lib.hid (X1_n.out.kept h2)
      have E2 : Hid (Below w.heap.size w V2) := Lib.hid (E1.out.trans (h2.mono E1.out.size))
      clear h2
      go_wp2_with fail
      refine (awake_x _).mono ?_
      rintro e Z ⟨rfl, hz⟩
      go_wp2_with fail
      go_ret
      exact ⟨rfl, E2.out.trans (hz.mono E2.out.size)⟩
    have h0m : confE m = 0 := by simpa using HD.out
    have HL := Lib.hid (HAL.out h0m)
    have HR := Lib.hid (HAR.out h0m)
    clear h0m
    have K2 := Lib.hid (mClean_x X1_n.out (by omega))
    rw [HD.out] at K2
    go_wp2_with fail
    refine (K2.out).mono ?_
    rintro e V2 ⟨rfl, h2⟩
    have C2_0 := Lib.hid (B1_0.out.kept h2)
    have z2_0 : w.heap.size < V2.heap.size := C2_0.out.lt
    have X2_0 := Lib.hid (X1_0.out.kept h2)
    have C2_1 := Lib.hid (B1_1.out.kept h2)
    have z2_1 : w.heap.size + 1 < V2.heap.size := C2_1.out.lt
    have X2_1 := Lib.hid (X1_1.out.kept h2)
    have C2_2 := Lib.hid (B1_2.out.kept h2)
    have z2_2 : w.heap.size + 1 + 1 < V2.heap.size := C2_2.out.lt
    have X2_2 := Lib.hid (X1_2.out.kept h2)
    have C2_3 := Lib.hid (B1_n.out.kept h2)
    have z2_3 : V1.heap.size < V2.heap.size := C2_3.out.lt
    have X2_3 := Lib.hid (X1_n.out.kept h2)
    have E2 : Hid (Below w.heap.size w V2) := Lib.hid (E1.out.trans (h2.mono E1.out.size))
    clear h2
    obtain ⟨y3_0_0, y3_0_1, y3_0_2, y3_0_3, y3_0_4, y3_0_5⟩ := C2_0.out.cells
    obtain ⟨y3_2_0, y3_2_1, y3_2_2, y3_2_3, y3_2_4, y3_2_5⟩ := C2_2.out.cells
    obtain ⟨y3_3_0, y3_3_1, y3_3_2, y3_3_3, y3_3_4, y3_3_5⟩ := C2_3.out.cells
    have K3 := Lib.hid (mMerge_x X2_0.out X2_3.out X2_2.out (by omega))
    rw [mergeX_ok HC0.out HCM.out HC2.out HCM.out HL.out] at K3
    go_wp2_with fail
    refine (K3.out).mono ?_
    rintro e V3 ⟨x3, rfl, g3, h3⟩
    clear y3_0_0 y3_0_1 y3_0_2 y3_0_3 y3_0_4 y3_0_5 y3_2_0 y3_2_1 y3_2_2 y3_2_3 y3_2_4 y3_2_5 y3_3_0 y3_3_1 y3_3_2 y3_3_3 y3_3_4 y3_3_5
    have C3_0 := Lib.hid (C2_0.out.kept h3)
    have z3_0 : w.heap.size < V3.heap.size := C3_0.out.lt
    have B3_0 := Lib.hid (C3_0.out.alloc (.cells x3.arr 24))
    have X3_0 := Lib.hid ((X2_0.out.kept h3).alloc (.cells x3.arr 24))
    have C3_1 := Lib.hid (C2_1.out.kept h3)
    have z3_1 : w.heap.size + 1 < V3.heap.size := C3_1.out.lt
    have B3_1 := Lib.hid (C3_1.out.alloc (.cells x3.arr 24))
    have X3_1 := Lib.hid ((X2_1.out.kept h3).alloc (.cells x3.arr 24))
    have C3_2 := Lib.hid (C2_2.out.kept h3)
    have z3_2 : w.heap.size + 1 + 1 < V3.heap.size := C3_2.out.lt
    have B3_2 := Lib.hid (C3_2.out.alloc (.cells x3.arr 24))
    have X3_2 := Lib.hid ((X2_2.out.kept h3).alloc (.cells x3.arr 24))
    have C3_3 := Lib.hid (C2_3.out.kept h3)
    have z3_3 : V1.heap.size < V3.heap.size := C3_3.out.lt
    have B3_3 := Lib.hid (C3_3.out.alloc (.cells x3.arr 24))
    have X3_3 := Lib.hid ((X2_3.out.kept h3).alloc (.cells x3.arr 24))
    have E3 : Hid (Below w.heap.size w (V3.alloc (.cells x3.arr 24))) := Lib.hid ((E2.out.trans (h3.mono E2.out.size)).alloc (E2.out.trans (h3.mono E2.out.size)).size _)
    have B3_n := Lib.hid (Bx.new V3 x3)
    have X3_n : Hid (XAt (V3.alloc (.cells x3.arr 24)) m x3) := Lib.hid (g3.alloc (.cells x3.arr 24))
    clear g3
    clear h3
    obtain ⟨y4_0_0, y4_0_1, y4_0_2, y4_0_3, y4_0_4, y4_0_5⟩ := C3_0.out.cells
    obtain ⟨y4_1_0, y4_1_1, y4_1_2, y4_1_3, y4_1_4, y4_1_5⟩ := C3_1.out.cells
    obtain ⟨y4_3_0, y4_3_1, y4_3_2, y4_3_3, y4_3_4, y4_3_5⟩ := C3_3.out.cells
    have K4 := Lib.hid (mMerge_x X3_0.out X3_1.out X3_3.out (by omega))
    rw [mergeX_ok HC0.out HC1.out HCM.out HCM.out HR.out] at K4
    go_wp2_with fail
    refine (K4.out).mono ?_
    rintro e V4 ⟨x4, rfl, g4, h4⟩
    clear y4_0_0 y4_0_1 y4_0_2 y4_0_3 y4_0_4 y4_0_5 y4_1_0 y4_1_1 y4_1_2 y4_1_3 y4_1_4 y4_1_5 y4_3_0 y4_3_1 y4_3_2 y4_3_3 y4_3_4 y4_3_5
    have C4_0 := Lib.hid (B3_0.out.kept h4)
    have z4_0 : w.heap.size < V4.heap.size := C4_0.out.lt
    have B4_0 := Lib.hid (C4_0.out.alloc (.cells x4.arr 24))
    have X4_0 := Lib.hid ((X3_0.out.kept h4).alloc (.cells x4.arr 24))
    have C4_1 := Lib.hid (B3_1.out.kept h4)
    have z4_1 : w.heap.size + 1 < V4.heap.size := C4_1.out.lt
    have B4_1 := Lib.hid (C4_1.out.alloc (.cells x4.arr 24))
    have X4_1 := Lib.hid ((X3_1.out.kept h4).alloc (.cells x4.arr 24))
    have C4_2 := Lib.hid (B3_2.out.kept h4)
    have z4_2 : w.heap.size + 1 + 1 < V4.heap.size := C4_2.out.lt
    have B4_2 := Lib.hid (C4_2.out.alloc (.cells x4.arr 24))
    have X4_2 := Lib.hid ((X3_2.out.kept h4).alloc (.cells x4.arr 24))
    have C4_3 := Lib.hid (B3_3.out.kept h4)
    have z4_3 : V1.heap.size < V4.heap.size := C4_3.out.lt
    have B4_3 := Lib.hid (C4_3.out.alloc (.cells x4.arr 24))
    have X4_3 := Lib.hid ((X3_3.out.kept h4).alloc (.cells x4.arr 24))
    have C4_4 := Lib.hid (B3_n.out.kept h4)
    have z4_4 : V3.heap.size < V4.heap.size := C4_4.out.lt
    have B4_4 := Lib.hid (C4_4.out.alloc (.cells x4.arr 24))
    have X4_4 := Lib.hid ((X3_n.out.kept h4).alloc (.cells x4.arr 24))
    have E4 : Hid (Below w.heap.size w (V4.alloc (.cells x4.arr 24))) := Lib.hid ((E3.out.trans (h4.mono E3.out.size)).alloc (E3.out.trans (h4.mono E3.out.size)).size _)
    have B4_n := Lib.hid (Bx.new V4 x4)
    have X4_n : Hid (XAt (V4.alloc (.cells x4.arr 24)) m x4) := Lib.hid (g4.alloc (.cells x4.arr 24))
    clear g4
    clear h4
    obtain ⟨y5_0_0, y5_0_1, y5_0_2, y5_0_3, y5_0_4, y5_0_5⟩ := C4_0.out.cells
    obtain ⟨y5_3_0, y5_3_1, y5_3_2, y5_3_3, y5_3_4, y5_3_5⟩ := C4_3.out.cells
    have K5 := Lib.hid (mMerge_x X4_0.out X4_3.out X4_3.out (by omega))
    rw [mergeX_ok HC0.out HCM.out HCM.out HCM.out (mergeE_both _ _)] at K5
    go_wp2_with fail
    refine (K5.out).mono ?_
    rintro e V5 ⟨x5, rfl, g5, h5⟩
    clear y5_0_0 y5_0_1 y5_0_2 y5_0_3 y5_0_4 y5_0_5 y5_3_0 y5_3_1 y5_3_2 y5_3_3 y5_3_4 y5_3_5
    have C5_0 := Lib.hid (B4_0.out.kept h5)
    have z5_0 : w.heap.size < V5.heap.size := C5_0.out.lt
    have B5_0 := Lib.hid (C5_0.out.alloc (.cells x5.arr 24))
    have X5_0 := Lib.hid ((X4_0.out.kept h5).alloc (.cells x5.arr 24))
    have C5_1 := Lib.hid (B4_1.out.kept h5)
    have z5_1 : w.heap.size + 1 < V5.heap.size := C5_1.out.lt
    have B5_1 := Lib.hid (C5_1.out.alloc (.cells x5.arr 24))
    have X5_1 := Lib.hid ((X4_1.out.kept h5).alloc (.cells x5.arr 24))
    have C5_2 := Lib.hid (B4_2.out.kept h5)
    have z5_2 : w.heap.size + 1 + 1 < V5.heap.size := C5_2.out.lt
    have B5_2 := Lib.hid (C5_2.out.alloc (.cells x5.arr 24))
    have X5_2 := Lib.hid ((X4_2.out.kept h5).alloc (.cells x5.arr 24))
    have C5_3 := Lib.hid (B4_3.out.kept h5)
    have z5_3 : V1.heap.size < V5.heap.size := C5_3.out.lt
    have B5_3 := Lib.hid (C5_3.out.alloc (.cells x5.arr 24))
    have X5_3 := Lib.hid ((X4_3.out.kept h5).alloc (.cells x5.arr 24))
    have C5_4 := Lib.hid (B4_4.out.kept h5)
    have z5_4 : V3.heap.size < V5.heap.size := C5_4.out.lt
    have B5_4 := Lib.hid (C5_4.out.alloc (.cells x5.arr 24))
    have X5_4 := Lib.hid ((X4_4.out.kept h5).alloc (.cells x5.arr 24))
    have C5_5 := Lib.hid (B4_n.out.kept h5)
    have z5_5 : V4.heap.size < V5.heap.size := C5_5.out.lt
    have B5_5 := Lib.hid (C5_5.out.alloc (.cells x5.arr 24))
    have X5_5 := Lib.hid ((X4_n.out.kept h5).alloc (.cells x5.arr 24))
    have E5 : Hid (Below w.heap.size w (V5.alloc (.cells x5.arr 24))) := Lib.hid ((E4.out.trans (h5.mono E4.out.size)).alloc (E4.out.trans (h5.mono E4.out.size)).size _)
    have B5_n := Lib.hid (Bx.new V5 x5)
    have X5_n : Hid (XAt (V5.alloc (.cells x5.arr 24)) m x5) := Lib.hid (g5.alloc (.cells x5.arr 24))
    clear g5
    clear h5
    obtain ⟨y6_3_0, y6_3_1, y6_3_2, y6_3_3, y6_3_4, y6_3_5⟩ := C5_3.out.cells
    obtain ⟨y6_4_0, y6_4_1, y6_4_2, y6_4_3, y6_4_4, y6_4_5⟩ := C5_4.out.cells
    have K6 := Lib.hid (rSame_x X5_4.out X5_3.out (by omega))
    rw [sameE_refl] at K6
    go_wp2_with fail
    refine (K6.out).mono ?_
    rintro e V6 ⟨rfl, h6⟩
    clear y6_3_0 y6_3_1 y6_3_2 y6_3_3 y6_3_4 y6_3_5 y6_4_0 y6_4_1 y6_4_2 y6_4_3 y6_4_4 y6_4_5
    have C6_0 := Lib.hid (B5_0.out.kept h6)
    have z6_0 : w.heap.size < V6.heap.size := C6_0.out.lt
    have X6_0 := Lib.hid (X5_0.out.kept h6)
    have C6_1 := Lib.hid (B5_1.out.kept h6)
    have z6_1 : w.heap.size + 1 < V6.heap.size := C6_1.out.lt
    have X6_1 := Lib.hid (X5_1.out.kept h6)
    have C6_2 := Lib.hid (B5_2.out.kept h6)
    have z6_2 : w.heap.size + 1 + 1 < V6.heap.size := C6_2.out.lt
    have X6_2 := Lib.hid (X5_2.out.kept h6)
    have C6_3 := Lib.hid (B5_3.out.kept h6)
    have z6_3 : V1.heap.size < V6.heap.size := C6_3.out.lt
    have X6_3 := Lib.hid (X5_3.out.kept h6)
    have C6_4 := Lib.hid (B5_4.out.kept h6)
    have z6_4 : V3.heap.size < V6.heap.size := C6_4.out.lt
    have X6_4 := Lib.hid (X5_4.out.kept h6)
    have C6_5 := Lib.hid (B5_5.out.kept h6)
    have z6_5 : V4.heap.size < V6.heap.size := C6_5.out.lt
    have X6_5 := Lib.hid (X5_5.out.kept h6)
    have C6_6 := Lib.hid (B5_n.out.kept h6)
    have z6_6 : V5.heap.size < V6.heap.size := C6_6.out.lt
    have X6_6 := Lib.hid (X5_n.out.kept h6)
    have E6 : Hid (Below w.heap.size w V6) := Lib.hid (E5.out.trans (h6.mono E5.out.size))
    clear h6
    obtain ⟨y7_3_0, y7_3_1, y7_3_2, y7_3_3, y7_3_4, y7_3_5⟩ := C6_3.out.cells
    obtain ⟨y7_5_0, y7_5_1, y7_5_2, y7_5_3, y7_5_4, y7_5_5⟩ := C6_5.out.cells
    have K7 := Lib.hid (rSame_x X6_5.out X6_3.out (by omega))
    rw [sameE_refl] at K7
    go_wp2_with fail
    refine (K7.out).mono ?_
    rintro e V7 ⟨rfl, h7⟩
    clear y7_3_0 y7_3_1 y7_3_2 y7_3_3 y7_3_4 y7_3_5 y7_5_0 y7_5_1 y7_5_2 y7_5_3 y7_5_4 y7_5_5
    have C7_0 := Lib.hid (C6_0.out.kept h7)
    have z7_0 : w.heap.size < V7.heap.size := C7_0.out.lt
    have X7_0 := Lib.hid (X6_0.out.kept h7)
    have C7_1 := Lib.hid (C6_1.out.kept h7)
    have z7_1 : w.heap.size + 1 < V7.heap.size := C7_1.out.lt
    have X7_1 := Lib.hid (X6_1.out.kept h7)
    have C7_2 := Lib.hid (C6_2.out.kept h7)
    have z7_2 : w.heap.size + 1 + 1 < V7.heap.size := C7_2.out.lt
    have X7_2 := Lib.hid (X6_2.out.kept h7)
    have C7_3 := Lib.hid (C6_3.out.kept h7)
    have z7_3 : V1.heap.size < V7.heap.size := C7_3.out.lt
    have X7_3 := Lib.hid (X6_3.out.kept h7)
    have C7_4 := Lib.hid (C6_4.out.kept h7)
    have z7_4 : V3.heap.size < V7.heap.size := C7_4.out.lt
    have X7_4 := Lib.hid (X6_4.out.kept h7)
    have C7_5 := Lib.hid (C6_5.out.kept h7)
    have z7_5 : V4.heap.size < V7.heap.size := C7_5.out.lt
    have X7_5 := Lib.hid (X6_5.out.kept h7)
    have C7_6 := Lib.hid (C6_6.out.kept h7)
    have z7_6 : V5.heap.size < V7.heap.size := C7_6.out.lt
    have X7_6 := Lib.hid (X6_6.out.kept h7)
    have E7 : Hid (Below w.heap.size w V7) := Lib.hid (E6.out.trans (h7.mono E6.out.size))
    clear h7
    obtain ⟨y8_3_0, y8_3_1, y8_3_2, y8_3_3, y8_3_4, y8_3_5⟩ := C7_3.out.cells
    obtain ⟨y8_6_0, y8_6_1, y8_6_2, y8_6_3, y8_6_4, y8_6_5⟩ := C7_6.out.cells
    have K8 := Lib.hid (rSame_x X7_6.out X7_3.out (by omega))
    rw [sameE_refl] at K8
    go_wp2_with fail
    refine (K8.out).mono ?_
    rintro e V8 ⟨rfl, h8⟩
    clear y8_3_0 y8_3_1 y8_3_2 y8_3_3 y8_3_4 y8_3_5 y8_6_0 y8_6_1 y8_6_2 y8_6_3 y8_6_4 y8_6_5
    have C8_0 := Lib.hid (C7_0.out.kept h8)
    have z8_0 : w.heap.size < V8.heap.size := C8_0.out.lt
    have X8_0 := Lib.hid (X7_0.out.kept h8)
    have C8_1 := Lib.hid (C7_1.out.kept h8)
    have z8_1 : w.heap.size + 1 < V8.heap.size := C8_1.out.lt
    have X8_1 := Lib.hid (X7_1.out.kept h8)
    have C8_2 := Lib.hid (C7_2.out.kept h8)
    have z8_2 : w.heap.size + 1 + 1 < V8.heap.size := C8_2.out.lt
    have X8_2 := Lib.hid (X7_2.out.kept h8)
    have C8_3 := Lib.hid (C7_3.out.kept h8)
    have z8_3 : V1.heap.size < V8.heap.size := C8_3.out.lt
    have X8_3 := Lib.hid (X7_3.out.kept h8)
    have C8_4 := Lib.hid (C7_4.out.kept h8)
    have z8_4 : V3.heap.size < V8.heap.size := C8_4.out.lt
    have X8_4 := Lib.hid (X7_4.out.kept h8)
    have C8_5 := Lib.hid (C7_5.out.kept h8)
    have z8_5 : V4.heap.size < V8.heap.size := C8_5.out.lt
    have X8_5 := Lib.hid (X7_5.out.kept h8)
    have C8_6 := Lib.hid (C7_6.out.kept h8)
    have z8_6 : V5.heap.size < V8.heap.size := C8_6.out.lt
    have X8_6 := Lib.hid (X7_6.out.kept h8)
    have E8 : Hid (Below w.heap.size w V8) := Lib.hid (E7.out.trans (h8.mono E7.out.size))
    clear h8
    go_wp2_with fail
    refine (awake_x _).mono ?_
    rintro e Z ⟨rfl, hz⟩
    go_wp2_with fail
    go_ret
    exact ⟨rfl, E8.out.trans (hz.mono E8.out.size)⟩
end Go.Proofs.YtiagjpiclnmpkaaDoor
