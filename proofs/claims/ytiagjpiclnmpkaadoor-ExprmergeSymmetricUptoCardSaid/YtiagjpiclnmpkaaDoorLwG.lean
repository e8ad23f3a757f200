/- ExprmergeSymmetric: the plain law and the walk. -/
import Derived.Test.YtiagjpiclnmpkaaDoorLwF
import Derived.Test.YtiagjpiclnmpkaaDoorOpA
namespace Go.Proofs.YtiagjpiclnmpkaaDoor
open Go.RowKit

mutual
theorem oppE_clean : ∀ t : Ex, confE t = 0 → oppE t = t
  | .mk k n m i d s, h => by
    rw [confE] at h
    have hk : ¬ k = 15 := fun e => by rw [if_pos e] at h; omega
    rw [oppE, oppL_clean s (by omega), oppS, if_neg (fun e => hk e.1)]
theorem oppL_clean : ∀ l : List Ex, confL l = 0 → oppL l = l
  | [], _ => by simp [oppL]
  | e :: es, h => by
    simp only [confL] at h
    rw [oppL, oppE_clean e (by omega), oppL_clean es (by omega)]
end
theorem partsB_symm (b l r : Ex) : partsB b l r = partsB b r l := by
  unfold partsB
  cases alikeE b l <;> cases alikeE b r <;> simp
theorem sameE_symm (a b : Ex) : sameE a b = sameE b a := by
  by_cases h : a = b
  · subst h; rfl
  · rw [sameE_false h, sameE_false (fun e => h e.symm)]
mutual
theorem mergeE_opp : ∀ b l r : Ex, confE b = 0 → confE l = 0 → confE r = 0 → oppE (mergeE b r l) = mergeE b l r
  | .mk k n m i d s, l, r, hb, hl, hr => by
    by_cases h1 : l = r
    · subst h1
      rw [mergeE_both, oppE_clean l hl]
    · by_cases h2 : l = .mk k n m i d s
      · subst h2
        rw [mergeE_left, mergeE_right, oppE_clean r hr]
      · by_cases h3 : r = .mk k n m i d s
        · subst h3
          rw [mergeE_left, mergeE_right, oppE_clean l hl]
        · have n1 : ¬ (sameE r l || sameE l (.mk k n m i d s)) = true := by rw [sameE_false (fun e => h1 e.symm), sameE_false h2]; simp
          have n2 : ¬ sameE r (.mk k n m i d s) = true := by rw [sameE_false h3]; simp
          have n3 : ¬ (sameE l r || sameE r (.mk k n m i d s)) = true := by rw [sameE_false h1, sameE_false h3]; simp
          have n4 : ¬ sameE l (.mk k n m i d s) = true := by rw [sameE_false h2]; simp
          rw [mergeE, mergeE, if_neg n1, if_neg n2, if_neg n3, if_neg n4, partsB_symm (.mk k n m i d s) r l]
          by_cases h5 : partsB (.mk k n m i d s) l r = true
          · rw [if_pos h5, if_pos h5]
            simp only [partsB, Bool.and_eq_true, decide_eq_true_eq] at h5
            obtain ⟨⟨⟨ha, hb'⟩, hk⟩, _⟩ := h5
            have hk' : ¬ k = 15 := hk
            have la : s.length = l.sub.length := ((alikeE_iff _ _).1 ha).2.2.2.2.2
            have lb : s.length = r.sub.length := ((alikeE_iff _ _).1 hb').2.2.2.2.2
            rw [confE] at hb
            rw [confE_eq] at hl hr
            rw [oppE, oppS, if_neg (fun e => hk' e.1), mergeL_opp s l.sub r.sub la lb (by omega) (by omega) (by omega)]
          · rw [if_neg h5, if_neg h5]
            unfold sumE
            rw [oppE]
            simp only [oppL, oppE_clean _ hb, oppE_clean _ hl, oppE_clean _ hr]
            rfl
theorem mergeL_opp : ∀ b l r : List Ex, b.length = l.length → b.length = r.length → confL b = 0 → confL l = 0 → confL r = 0 → oppL (mergeL b r l) = mergeL b l r
  | [], l, r, h1, h2, _, _, _ => by cases l <;> cases r <;> simp_all [mergeL, oppL]
  | b :: bs, l :: ls, r :: rs, h1, h2, hb, hl, hr => by
    simp only [confL] at hb hl hr
    simp only [mergeL, oppL]
    rw [mergeE_opp b l r (by omega) (by omega) (by omega), mergeL_opp bs ls rs (by simpa using h1) (by simpa using h2) (by omega) (by omega) (by omega)]
  | b :: bs, [], r, h1, _, _, _, _ => by simp at h1
  | b :: bs, l :: ls, [], _, h2, _, _, _ => by simp at h2
end
theorem oppS_length (k : Int) (l : List Ex) : (oppS k l).length = l.length := by unfold oppS; split <;> simp
theorem nodesL_rev : ∀ l : List Ex, nodesL l.reverse = nodesL l
  | [] => rfl
  | e :: es => by
    have ha : ∀ a b : List Ex, nodesL (a ++ b) = nodesL a + nodesL b := fun a b => by
      induction a with
      | nil => simp [nodesL]
      | cons x xs ih => simp only [List.cons_append, nodesL, ih]; omega
    rw [List.reverse_cons, ha, nodesL_rev es]; simp only [nodesL]; omega
theorem depthL_rev : ∀ l : List Ex, depthL l.reverse = depthL l
  | [] => rfl
  | e :: es => by rw [List.reverse_cons, depthL_append, depthL_rev es]; simp only [depthL]; omega
theorem checkEs_iff : ∀ l : List Ex, checkEs l = 0 ↔ ∀ t ∈ l, checkE t = 0
  | [] => by simp [checkEs]
  | e :: es => by
    rw [checkEs]
    by_cases h : checkE e = 0
    · rw [if_pos h, checkEs_iff es]; simp [h]
    · rw [if_neg h]; simp [h]
theorem checkE_iff (k : Int) (n m : ByteArray) (i d : Int) (s : List Ex) : checkE (.mk k n m i d s) = 0 ↔ checkN k n m i d s.length = 0 ∧ ∀ t ∈ s, checkE t = 0 := by
  rw [checkE, ← checkEs_iff]
  by_cases h : checkN k n m i d s.length = 0
  · rw [if_pos h]; simp [h]
  · rw [if_neg h]; simp [h]
theorem oppS_mem (k : Int) (l : List Ex) (t : Ex) : t ∈ oppS k l ↔ t ∈ l := by unfold oppS; split <;> simp
theorem nodesL_oppS (k : Int) (l : List Ex) : nodesL (oppS k l) = nodesL l := by unfold oppS; split; exact nodesL_rev l; rfl
theorem depthL_oppS (k : Int) (l : List Ex) : depthL (oppS k l) = depthL l := by unfold oppS; split; exact depthL_rev l; rfl
mutual
theorem oppE_nodes : ∀ t : Ex, nodesE (oppE t) = nodesE t
  | .mk k n m i d s => by rw [oppE, nodesE, nodesE, nodesL_oppS, oppL_nodes s]
theorem oppL_nodes : ∀ l : List Ex, nodesL (oppL l) = nodesL l
  | [] => by simp [oppL]
  | e :: es => by rw [oppL, nodesL, nodesL, oppE_nodes e, oppL_nodes es]
end
mutual
theorem oppE_depth : ∀ t : Ex, depthE (oppE t) = depthE t
  | .mk k n m i d s => by rw [oppE, depthE, depthE, depthL_oppS, oppL_depth s]
theorem oppL_depth : ∀ l : List Ex, depthL (oppL l) = depthL l
  | [] => by simp [oppL]
  | e :: es => by rw [oppL, depthL, depthL, oppE_depth e, oppL_depth es]
end
mutual
theorem oppE_check : ∀ t : Ex, checkE (oppE t) = 0 ↔ checkE t = 0
  | .mk k n m i d s => by
    rw [oppE, checkE_iff, checkE_iff, oppS_length, oppL_length]
    simp only [oppS_mem]
    rw [oppL_check s]
theorem oppL_check : ∀ l : List Ex, (∀ t ∈ oppL l, checkE t = 0) ↔ (∀ t ∈ l, checkE t = 0)
  | [] => by simp [oppL]
  | e :: es => by
    rw [oppL]
    simp only [List.forall_mem_cons]
    rw [oppE_check e, oppL_check es]
end
theorem oppE_checkX (t : Ex) : checkX (oppE t) = 0 ↔ checkX t = 0 := by
  unfold checkX
  rw [oppE_nodes, oppE_depth]
  by_cases h : 400 < nodesE t ∨ 40 < depthE t
  · rw [if_pos h, if_pos h]
  · rw [if_neg h, if_neg h]; exact oppE_check t
theorem oppE_zero : oppE zeroEx = zeroEx := by simp [zeroEx, oppE, oppL, oppS]
/-- the merge with its sides exchanged -/
theorem mergeX_opp {b l r : Ex} (hb : checkX b = 0 ∧ confE b = 0) (hl : checkX l = 0 ∧ confE l = 0) (hr : checkX r = 0 ∧ confE r = 0) : (mergeX b l r).2 = (mergeX b r l).2 ∧ (mergeX b l r).1 = oppE (mergeX b r l).1 := by
  have h := mergeE_opp b l r hb.2 hl.2 hr.2
  have hc := oppE_checkX (mergeE b r l)
  rw [h] at hc
  rcases mergeX_fine hb.1 hl.1 hr.1 with ⟨e1, c1⟩ | ⟨e1, c1⟩
  · rcases mergeX_fine hb.1 hr.1 hl.1 with ⟨e2, c2⟩ | ⟨e2, c2⟩
    · rw [e1, e2]; exact ⟨rfl, h.symm⟩
    · exact absurd (hc.1 c1) c2
  · rcases mergeX_fine hb.1 hr.1 hl.1 with ⟨e2, c2⟩ | ⟨e2, c2⟩
    · exact absurd (hc.2 c2) c1
    · rw [e1, e2]; exact ⟨rfl, oppE_zero.symm⟩
theorem rOpp_x {a : Ex} {xa : XV} {w : World} (ha : XAt w a xa) (hsz : nodesE a ≤ 1048576) :
    Calls Tryd.prog 17 #[.agg xa.arr] w (RetX w (oppE a)) := by
  obtain ⟨ea, ha⟩ := xAt_sub ha
  rw [ea]
  rw [nodesE_eq] at hsz
  have h := opp_any (nodesL a.sub + 1) a.kind a.name a.more a.int a.den a.sub xa.p xa.c (· < w.heap.size) w (fun _ h => h) (by omega) (by omega) (subP_of ha)
  rw [Ex.eta] at h
  exact h.mono fun _ _ h => retX_of h
set_option maxRecDepth 100000 in
set_option maxHeartbeats 4000000 in
theorem lawSymmetric_x {b l r : Ex} {xb xl xr : XV} {w : World} (hb : XAt w b xb) (hl : XAt w l xl) (hr : XAt w r xr) (hsz : nodesE b + nodesE l + nodesE r ≤ 1048576) :
    Calls Tryd.prog 5 #[.agg xb.arr, .agg xl.arr, .agg xr.arr] w fun e w' => e = .returned (.bool true) ∧ Below w.heap.size w w' := by
  obtain ⟨W, hW, hF, hS⟩ := f3_start hb hl hr
  have HG := Lib.hid (fine_x hS (by simp only [nodesL]; omega))
  have HW := Lib.hid hW
  have HE := Lib.hid hF.below
  have HB0 := Lib.hid hF.b
  have HB1 := Lib.hid hF.l
  have HB2 := Lib.hid hF.r
  have HX0 := Lib.hid hF.hb
  have HX1 := Lib.hid hF.hl
  have HX2 := Lib.hid hF.hr
  clear hW hF hS hb hl hr
  obtain ⟨g, hg⟩ : ∃ g, anyE unfineE [b, l, r] = g := ⟨_, rfl⟩
  rw [hg] at HG
  have HGG := Lib.hid hg
  clear hg
  go_enter Tryd.func5, Tryd.ntmps5
  go_wp2_with fail
  rw [HW.out]
  refine (HG.out).mono ?_
  rintro e V0 ⟨rfl, h0⟩
  have C0_0 := Lib.hid (HB0.out.kept h0)
  have z0_0 : w.heap.size < V0.heap.size := C0_0.out.lt
  have X0_0 := Lib.hid (HX0.out.kept h0)
  have C0_1 := Lib.hid (HB1.out.kept h0)
  have z0_1 : w.heap.size + 1 < V0.heap.size := C0_1.out.lt
  have X0_1 := Lib.hid (HX1.out.kept h0)
  have C0_2 := Lib.hid (HB2.out.kept h0)
  have z0_2 : w.heap.size + 1 + 1 < V0.heap.size := C0_2.out.lt
  have X0_2 := Lib.hid (HX2.out.kept h0)
  have E0 : Hid (Below w.heap.size w V0) := Lib.hid (HE.out.trans (h0.mono HE.out.size))
  clear h0
  cases g with
  | true =>
    go_wp2_with fail
    refine (awake_x _).mono ?_
    rintro e Z ⟨rfl, hz⟩
    go_wp2_with fail
    go_ret
    exact ⟨rfl, E0.out.trans (hz.mono E0.out.size)⟩
  | false =>
    obtain ⟨hn0, hc0, hd0⟩ := unfine_no (anyE_mem HGG.out b (by simp))
    obtain ⟨hn1, hc1, hd1⟩ := unfine_no (anyE_mem HGG.out l (by simp))
    obtain ⟨hn2, hc2, hd2⟩ := unfine_no (anyE_mem HGG.out r (by simp))
    have HO := Lib.hid (mergeX_opp ⟨hc0, hd0⟩ ⟨hc1, hd1⟩ ⟨hc2, hd2⟩)
    clear hc0 hc1 hc2 hd0 hd1 hd2
    have hnm := mergeX_nodes (b := b) (l := l) (r := r)
    have hnm2 := mergeX_nodes (b := b) (l := r) (r := l)
    have HM1 := Lib.hid (fun (w : World) (h0 : XAt w b xb) (h1 : XAt w l xl) (h2 : XAt w r xr) => mMerge_x h0 h1 h2 (by omega))
    have HM2 := Lib.hid (fun (w : World) (h0 : XAt w b xb) (h1 : XAt w r xr) (h2 : XAt w l xl) => mMerge_x h0 h1 h2 (by omega))
    obtain ⟨⟨m1, q1⟩, hm1⟩ : ∃ t, mergeX b l r = t := ⟨_, rfl⟩
    obtain ⟨⟨m2, q2⟩, hm2⟩ : ∃ t, mergeX b r l = t := ⟨_, rfl⟩
    rw [hm1] at hnm HO HM1
    rw [hm2] at hnm2 HO HM2
    clear hm1 hm2
    obtain ⟨hq, hmo⟩ := HO.out
    dsimp only at hq hmo hnm hnm2 HM1 HM2
    subst hq
    have HMO := Lib.hid hmo
    clear hmo HO
    obtain ⟨y1_0_0, y1_0_1, y1_0_2, y1_0_3, y1_0_4, y1_0_5⟩ := C0_0.out.cells
    obtain ⟨y1_1_0, y1_1_1, y1_1_2, y1_1_3, y1_1_4, y1_1_5⟩ := C0_1.out.cells
    obtain ⟨y1_2_0, y1_2_1, y1_2_2, y1_2_3, y1_2_4, y1_2_5⟩ := C0_2.out.cells
    have K1 := Lib.hid (HM1.out _ X0_0.out X0_1.out X0_2.out)
    go_wp2_with fail
    refine (K1.out).mono ?_
    rintro e V1 ⟨x1, rfl, g1, h1⟩
    clear y1_0_0 y1_0_1 y1_0_2 y1_0_3 y1_0_4 y1_0_5 y1_1_0 y1_1_1 y1_1_2 y1_1_3 y1_1_4 y1_1_5 y1_2_0 y1_2_1 y1_2_2 y1_2_3 y1_2_4 y1_2_5
    have C1_0 := Lib.hid (C0_0.out.kept h1)
    have z1_0 : w.heap.size < V1.heap.size := C1_0.out.lt
    have B1_0 := Lib.hid (C1_0.out.alloc (.cells x1.arr 24))
    have X1_0 := Lib.hid ((X0_0.out.kept h1).alloc (.cells x1.arr 24))
    have C1_1 := Lib.hid (C0_1.out.kept h1)
    have z1_1 : w.heap.size + 1 < V1.heap.size := C1_1.out.lt
    have B1_1 := Lib.hid (C1_1.out.alloc (.cells x1.arr 24))
    have X1_1 := Lib.hid ((X0_1.out.kept h1).alloc (.cells x1.arr 24))
    have C1_2 := Lib.hid (C0_2.out.kept h1)
    have z1_2 : w.heap.size + 1 + 1 < V1.heap.size := C1_2.out.lt
    have B1_2 := Lib.hid (C1_2.out.alloc (.cells x1.arr 24))
    have X1_2 := Lib.hid ((X0_2.out.kept h1).alloc (.cells x1.arr 24))
    have E1 : Hid (Below w.heap.size w (V1.alloc (.cells x1.arr 24))) := Lib.hid ((E0.out.trans (h1.mono E0.out.size)).alloc (E0.out.trans (h1.mono E0.out.size)).size _)
    have B1_n := Lib.hid (Bx.new V1 x1)
    have X1_n : Hid (XAt (V1.alloc (.cells x1.arr 24)) m1 x1) := Lib.hid (g1.alloc (.cells x1.arr 24))
    clear g1
    clear h1
    obtain ⟨y2_0_0, y2_0_1, y2_0_2, y2_0_3, y2_0_4, y2_0_5⟩ := C1_0.out.cells
    obtain ⟨y2_1_0, y2_1_1, y2_1_2, y2_1_3, y2_1_4, y2_1_5⟩ := C1_1.out.cells
    obtain ⟨y2_2_0, y2_2_1, y2_2_2, y2_2_3, y2_2_4, y2_2_5⟩ := C1_2.out.cells
    have K2 := Lib.hid (HM2.out _ X1_0.out X1_2.out X1_1.out)
    go_wp2_with fail
    refine (K2.out).mono ?_
    rintro e V2 ⟨x2, rfl, g2, h2⟩
    clear y2_0_0 y2_0_1 y2_0_2 y2_0_3 y2_0_4 y2_0_5 y2_1_0 y2_1_1 y2_1_2 y2_1_3 y2_1_4 y2_1_5 y2_2_0 y2_2_1 y2_2_2 y2_2_3 y2_2_4 y2_2_5
    have C2_0 := Lib.hid (B1_0.out.kept h2)
    have z2_0 : w.heap.size < V2.heap.size := C2_0.out.lt
    have B2_0 := Lib.hid (C2_0.out.alloc (.cells x2.arr 24))
    have X2_0 := Lib.hid ((X1_0.out.kept h2).alloc (.cells x2.arr 24))
    have C2_1 := Lib.hid (B1_1.out.kept h2)
    have z2_1 : w.heap.size + 1 < V2.heap.size := C2_1.out.lt
    have B2_1 := Lib.hid (C2_1.out.alloc (.cells x2.arr 24))
    have X2_1 := Lib.hid ((X1_1.out.kept h2).alloc (.cells x2.arr 24))
    have C2_2 := Lib.hid (B1_2.out.kept h2)
    have z2_2 : w.heap.size + 1 + 1 < V2.heap.size := C2_2.out.lt
    have B2_2 := Lib.hid (C2_2.out.alloc (.cells x2.arr 24))
    have X2_2 := Lib.hid ((X1_2.out.kept h2).alloc (.cells x2.arr 24))
    have C2_3 := Lib.hid (B1_n.out.kept h2)
    have z2_3 : V1.heap.size < V2.heap.size := C2_3.out.lt
    have B2_3 := Lib.hid (C2_3.out.alloc (.cells x2.arr 24))
    have X2_3 := Lib.hid ((X1_n.out.kept h2).alloc (.cells x2.arr 24))
    have E2 : Hid (Below w.heap.size w (V2.alloc (.cells x2.arr 24))) := Lib.hid ((E1.out.trans (h2.mono E1.out.size)).alloc (E1.out.trans (h2.mono E1.out.size)).size _)
    have B2_n := Lib.hid (Bx.new V2 x2)
    have X2_n : Hid (XAt (V2.alloc (.cells x2.arr 24)) m2 x2) := Lib.hid (g2.alloc (.cells x2.arr 24))
    clear g2
    clear h2
    obtain ⟨y2_3_0, y2_3_1, y2_3_2, y2_3_3, y2_3_4, y2_3_5⟩ := C2_3.out.cells
    go_wp2_with fail
    clear y2_3_0 y2_3_1 y2_3_2 y2_3_3 y2_3_4 y2_3_5
    obtain ⟨U, hU⟩ : ∃ U, V2.alloc (.cells x2.arr 24) = U := ⟨_, rfl⟩
    have B2_3u := B2_3.out
    rw [hU] at B2_3u
    have B2_nu := B2_n.out
    rw [hU] at B2_nu
    have X2_3u := X2_3.out
    rw [hU] at X2_3u
    have X2_nu := X2_n.out
    rw [hU] at X2_nu
    have E2u := E2.out
    rw [hU] at E2u
    rw [hU]
    have HB3 := Lib.hid B2_3u
    have HB4 := Lib.hid B2_nu
    have HX3 := Lib.hid X2_3u
    have HX4 := Lib.hid X2_nu
    have HEU := Lib.hid E2u
    clear hU B2_3u B2_nu X2_3u X2_nu E2u
    have HSM : Hid (∀ w' : World, (∀ b, b < U.heap.size → w'.heap[b]? = U.heap[b]?) → (w'.cell? ⟨V1.heap.size, 0, none⟩ = some (.int .i64 x1.k) ∧ w'.cell? ⟨V1.heap.size, 1, none⟩ = some (.string x1.n) ∧ w'.cell? ⟨V1.heap.size, 2, none⟩ = some (.string x1.m) ∧ w'.cell? ⟨V1.heap.size, 3, none⟩ = some (.int .i64 x1.i) ∧ w'.cell? ⟨V1.heap.size, 4, none⟩ = some (.int .i64 x1.d) ∧ w'.cell? ⟨V1.heap.size, 5, none⟩ = some (.slice x1.p x1.q x1.c) ∧ w'.cell? ⟨V2.heap.size, 0, none⟩ = some (.int .i64 x2.k) ∧ w'.cell? ⟨V2.heap.size, 1, none⟩ = some (.string x2.n) ∧ w'.cell? ⟨V2.heap.size, 2, none⟩ = some (.string x2.m) ∧ w'.cell? ⟨V2.heap.size, 3, none⟩ = some (.int .i64 x2.i) ∧ w'.cell? ⟨V2.heap.size, 4, none⟩ = some (.int .i64 x2.d) ∧ w'.cell? ⟨V2.heap.size, 5, none⟩ = some (.slice x2.p x2.q x2.c))) := Lib.hid (fun w' h => by
      obtain ⟨c0, c1, c2, c3, c4, c5⟩ := Bx.cells ((h _ HB3.out.lt).trans HB3.out)
      obtain ⟨d0, d1, d2, d3, d4, d5⟩ := Bx.cells ((h _ HB4.out.lt).trans HB4.out)
      exact ⟨c0, c1, c2, c3, c4, c5, d0, d1, d2, d3, d4, d5⟩)
    have hDr : Below U.heap.size U U.drew := below_drewE (Below.refl _ _)
    have HC1 := Lib.hid (rOpp_x (HX4.out.kept hDr) (by omega))
    rw [← HMO.out] at HC1
    have HX5 := Lib.hid (HX3.out.kept hDr)
    have HE5 : Hid (Below w.heap.size w U.drew) := Lib.hid (below_drewE HEU.out)
    clear hDr
    refine wp_region_T (fun w' => w'.cell? ⟨V1.heap.size, 0, none⟩ = some (.int .i64 x1.k) ∧ w'.cell? ⟨V1.heap.size, 1, none⟩ = some (.string x1.n) ∧ w'.cell? ⟨V1.heap.size, 2, none⟩ = some (.string x1.m) ∧ w'.cell? ⟨V1.heap.size, 3, none⟩ = some (.int .i64 x1.i) ∧ w'.cell? ⟨V1.heap.size, 4, none⟩ = some (.int .i64 x1.d) ∧ w'.cell? ⟨V1.heap.size, 5, none⟩ = some (.slice x1.p x1.q x1.c) ∧ w'.cell? ⟨V2.heap.size, 0, none⟩ = some (.int .i64 x2.k) ∧ w'.cell? ⟨V2.heap.size, 1, none⟩ = some (.string x2.n) ∧ w'.cell? ⟨V2.heap.size, 2, none⟩ = some (.string x2.m) ∧ w'.cell? ⟨V2.heap.size, 3, none⟩ = some (.int .i64 x2.i) ∧ w'.cell? ⟨V2.heap.size, 4, none⟩ = some (.int .i64 x2.d) ∧ w'.cell? ⟨V2.heap.size, 5, none⟩ = some (.slice x2.p x2.q x2.c)) 12 (by kernel_rfl) (HSM.out U.drew (fun _ _ => rfl)) (fun hHeld => ?_)
    refine wpAnyT_take (i := 0) (v := ?v0) rfl (by kernel_rfl) (by kernel_rfl) (by kernel_rfl) (by kernel_rfl) (by decide) (fun _ _ _ h => h) (Or.inl ⟨by rfl, ?hy0⟩) hHeld ?rest0
    case hy0 => (intro w hSw; (try dsimp only at hSw); go_simp; (try with_reducible rfl))
    try simp only [Act.put, List.setIfInBounds_toArray]
    refine wpAnyT_take (i := 1) (v := ?v1) rfl (by kernel_rfl) (by kernel_rfl) (by kernel_rfl) (by kernel_rfl) (by decide) (fun _ _ _ h => h) (Or.inl ⟨by rfl, ?hy1⟩) hHeld ?rest1
    case hy1 => (intro w hSw; (try dsimp only at hSw); go_simp; (try with_reducible rfl))
    try simp only [Act.put]
    refine wpAnyT_take (i := 2) (v := ?v2) rfl (by kernel_rfl) (by kernel_rfl) (by kernel_rfl) (by kernel_rfl) (by decide) (fun _ _ _ h => h) (Or.inl ⟨by rfl, ?hy2⟩) hHeld ?rest2
    case hy2 => (intro w hSw; (try dsimp only at hSw); go_simp; (try with_reducible rfl))
    try simp only [Act.put]
    refine wpAnyT_take (i := 3) (v := ?v3) rfl (by kernel_rfl) (by kernel_rfl) (by kernel_rfl) (by kernel_rfl) (by decide) (fun _ _ _ h => h) (Or.inl ⟨by rfl, ?hy3⟩) hHeld ?rest3
    case hy3 => (intro w hSw; (try dsimp only at hSw); go_simp; (try with_reducible rfl))
    try simp only [Act.put]
    refine wpAnyT_take (i := 4) (v := ?v4) rfl (by kernel_rfl) (by kernel_rfl) (by kernel_rfl) (by kernel_rfl) (by decide) (fun _ _ _ h => h) (Or.inl ⟨by rfl, ?hy4⟩) hHeld ?rest4
    case hy4 => (intro w hSw; (try dsimp only at hSw); go_simp; (try with_reducible rfl))
    try simp only [Act.put]
    refine wpAnyT_take (i := 5) (v := ?v5) rfl (by kernel_rfl) (by kernel_rfl) (by kernel_rfl) (by kernel_rfl) (by decide) (fun _ _ _ h => h) (Or.inl ⟨by rfl, ?hy5⟩) hHeld ?rest5
    case hy5 => (intro w hSw; (try dsimp only at hSw); go_simp; (try with_reducible rfl))
    try simp only [Act.put]
    refine wpAnyT_one (i := 6) (by kernel_rfl) rfl (fun K hK => ?_)
    go_simp
    refine (HC1.out).mono ?_
    rintro e Wa ⟨xa, rfl, ga, ha⟩
    have HKa : Hid (∀ b, b < U.heap.size → Wa.heap[b]? = U.heap[b]?) := Lib.hid (fun b hb => ha.block b hb)
    have HC2 := Lib.hid (rSame_x (HX5.out.kept ha) ga (by omega))
    rw [sameE_refl] at HC2
    have HEa : Hid (Below w.heap.size w Wa) := Lib.hid (HE5.out.trans (ha.mono HE5.out.size))
    have hsa : U.heap.size ≤ Wa.heap.size := ha.size
    clear ga ha
    go_wp2_with fail
    refine hK.out _ _ (fun _ => HSM.out _ HKa.out) ?_
    clear hK K hHeld
    have hHeld := HSM.out _ HKa.out
    try simp only [Act.put, List.setIfInBounds_toArray, List.set_cons_zero, List.set_cons_succ]
    refine wpAnyT_one (i := 7) (by kernel_rfl) rfl (fun K hK => ?_)
    go_simp
    refine (HC2.out).mono ?_
    rintro e Wb ⟨rfl, hb⟩
    have HKb : Hid (∀ b, b < U.heap.size → Wb.heap[b]? = U.heap[b]?) := Lib.hid (fun b hb' => (hb.block b (by omega)).trans (HKa.out b hb'))
    have HEb : Hid (Below w.heap.size w Wb) := Lib.hid (HEa.out.trans (hb.mono HEa.out.size))
    have hsb : Wa.heap.size ≤ Wb.heap.size := hb.size
    clear hb
    go_wp2_with fail
    refine hK.out _ _ (fun _ => HSM.out _ HKb.out) ?_
    clear hK K hHeld
    have hHeld := HSM.out _ HKb.out
    try simp only [Act.put, List.setIfInBounds_toArray, List.set_cons_zero, List.set_cons_succ]
    refine wpAnyT_take (i := 8) (v := ?v8) rfl (by kernel_rfl) (by kernel_rfl) (by kernel_rfl) (by kernel_rfl) (by decide) (fun _ _ _ h => h) (Or.inl ⟨by rfl, ?hy8⟩) hHeld ?rest8
    case hy8 => (intro w hSw; (try dsimp only at hSw); go_simp; (try with_reducible rfl))
    try simp only [Act.put, List.setIfInBounds_toArray]
    refine wpAnyT_take (i := 9) (v := ?v9) rfl (by kernel_rfl) (by kernel_rfl) (by kernel_rfl) (by kernel_rfl) (by decide) (fun _ _ _ h => h) (Or.inl ⟨by rfl, ?hy9⟩) hHeld ?rest9
    case hy9 => (intro w hSw; (try dsimp only at hSw); go_simp; (try with_reducible rfl))
    try simp only [Act.put]
    refine wpAnyT_one (i := 10) (by kernel_rfl) rfl (fun K hK => ?_)
    go_simp
    refine (awake_x _).mono ?_
    rintro e Wc ⟨rfl, hc⟩
    have HKc : Hid (∀ b, b < U.heap.size → Wc.heap[b]? = U.heap[b]?) := Lib.hid (fun b hb' => (hc.block b (by omega)).trans (HKb.out b hb'))
    have HEc : Hid (Below w.heap.size w Wc) := Lib.hid (HEb.out.trans (hc.mono HEb.out.size))
    clear hc
    go_wp2_with fail
    refine hK.out _ _ (fun _ => HSM.out _ HKc.out) ?_
    clear hK K hHeld
    have hHeld := HSM.out _ HKc.out
    try simp only [Act.put, List.setIfInBounds_toArray, List.set_cons_zero, List.set_cons_succ]
    refine wpAnyT_one (i := 11) (by kernel_rfl) rfl (fun K hK => ?_)
    go_simp
    refine hK.out _ _ (fun _ => HSM.out _ HKc.out) ?_
    clear hK K hHeld
    have hHeld := HSM.out _ HKc.out
    try simp only [Act.put, List.setIfInBounds_toArray, List.set_cons_zero, List.set_cons_succ]
    refine wpAnyT_one (i := 12) (by kernel_rfl) rfl (fun K hK => ?_)
    go_simp
    refine hK.out _ _ (fun _ => HSM.out _ HKc.out) ?_
    clear hK K hHeld
    have hHeld := HSM.out _ HKc.out
    try simp only [Act.put, List.setIfInBounds_toArray, List.set_cons_zero, List.set_cons_succ]
    refine wpAnyT_done (by kernel_rfl) ?_ _
    go_wp2_with fail
    go_ret
    exact ⟨rfl, HEc.out⟩
end Go.Proofs.YtiagjpiclnmpkaaDoor
