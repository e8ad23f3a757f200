/- text of the reference of layer 21, walked. Free and Expr of the reference of layer 21, walked. The texts by kinds of the program of layer 21, walked. slices.Contains, slices.Clone, addFree of the program of layer 21. -/
import Derived.Test.YtnphcjpccieljaaGreatDoorGYa
import Derived.Test.YtnphcjpccieljaaGreatDoorGXv
import Derived.Test.YtnphcjpccieljaaGreatDoorShelfB
namespace Go.Proofs.YtnphcjpccieljaaGreatDoor
open Go Go.RowKit
abbrev rtSt (k : Int) (n m : ByteArray) (i d : Int) (s : List Ex) (q : Nat) : St := ⟨[(1, .box 0 0), (2, .d (.raw (.string ⟨#[]⟩))), (3, .grow 1000 (encS (txL (s.take q)))), (4, .d (.raw (.int .i64 q)))], [(0, some (.cell 35 (cellsX k n m i d s)))], [(1000, some ⟨1, 9, q⟩)]⟩
set_option maxRecDepth 100000 in
set_option maxHeartbeats 16000000 in
theorem rtext_step (N : Nat) (ih : ∀ t : Ex, nodesE t < N → nodesE t ≤ 1048576 → okE t = true → Con Tryz.prog 61 [avE t] (.d (.raw (.string (txE t)))))
    (k : Int) (n m : ByteArray) (i d : Int) (s : List Ex) (hN : nodesE (.mk k n m i d s) < N + 1) (hb : nodesE (.mk k n m i d s) ≤ 1048576) (hok : okE (.mk k n m i d s) = true) : Con Tryz.prog 61 [avE (.mk k n m i d s)] (.d (.raw (.string (txE (.mk k n m i d s))))) := by
  have hsz := txE_size _ hok
  simp only [okE, Bool.and_eq_true] at hok
  obtain ⟨hok1, hokL⟩ := hok
  have hts := txL_size s hokL
  have h3 := sumB_three (txL s)
  obtain ⟨har, hn, hm, hi, hd, hk5⟩ := okN_iff hok1
  have ci := rDecimal_c i (by unfold inI64; omega)
  have cd := rDecimal_c d (by unfold inI64; omega)
  have zi := itoaB_size i (by unfold inI64; omega)
  have zd := itoaB_size d (by unfold inI64; omega)
  rw [nodesE] at hN hb
  have hlen := length_le_nodesL s
  refine con_of Tryz.func61 rfl (by decide +kernel) rfl (by simp only [AV.closed, closedL, avE, closedL_d, Bool.and_self]) (by simp [Tryz.ntmps61]) fun A hA => ?_
  rw [Tryz.ntmps61] at hA
  refine goC 300 ?_
  simp only [go_sem, hA, avE, encE]
  refine satC_loop [1, 2, 3, 4] [0] [1000] (fun x σ => ∃ q : Nat, q ≤ s.length ∧ x = s.length - q ∧ σ = rtSt k n m i d s q) s.length ⟨0, by omega, by omega, by simp only [go_sem, rtSt, List.take_zero, txL]; rfl⟩ ?_
  rintro x σ ⟨q, hq, rfl, rfl⟩
  refine goC 400 ?_
  have hlq : (encS (txL (s.take q))).length = q := by rw [encS_length, txL_length]; simp; omega
  by_cases hlt : q < s.length
  · have g1 : decide ((q : Int) < (s.length : Int)) = true := decide_eq_true (by omega)
    have hn1 := nodesL_get s q hlt
    have hc := ih s[q] (by omega) (by omega) (okL_get q hlt hokL)
    have hnx : encS (txL (s.take (q + 1))) = encS (txL (s.take q)) ++ [[.raw (.string (txE s[q]))]] := by rw [txL_take_succ s q hlt]; simp [encS]
    simp only [go_sem, hA, rtSt, encL_length, g1, Int.toNat_natCast, encL_at s q hlt]
    refine ⟨⟨by omega, by omega⟩, goCall 300 hc rfl (by simp only [go_sem, avE_eq]) (by simp only [go_sem, hA]) ?_⟩
    simp only [go_sem, hA]
    exact ⟨⟨by omega, encS_fit [txE s[q]], encS_row _, by omega⟩, by unfold inI64; omega, s.length - (q + 1), by omega, q + 1, by omega, rfl, by simp only [hnx]; rfl⟩
  · have g1 : decide ((q : Int) < (s.length : Int)) = false := decide_eq_false (by omega)
    obtain rfl : q = s.length := by omega
    have hLl := txL_length s
    rw [List.take_length] at hlq
    have htx : txE (.mk k n m i d s) = nodeText k n m i d (txL s) := by rw [txE]
    rcases (show k = 1 ∨ k = 2 ∨ k = 3 ∨ k = 4 ∨ k = 6 ∨ k = 7 ∨ k = 8 ∨ k = 9 ∨ k = 10 ∨ k = 12 ∨ k = 13 ∨ k = 14 ∨ k = 15 ∨ (¬ k = 1 ∧ ¬ k = 2 ∧ ¬ k = 3 ∧ ¬ k = 4 ∧ ¬ k = 6 ∧ ¬ k = 7 ∧ ¬ k = 8 ∧ ¬ k = 9 ∧ ¬ k = 10 ∧ ¬ k = 12 ∧ ¬ k = 13 ∧ ¬ k = 14 ∧ ¬ k = 15) by omega) with hk | hk | hk | hk | hk | hk | hk | hk | hk | hk | hk | hk | hk | hk
    · subst hk
      have ht : txE (.mk 1 n m i d s) = _ := htx.trans (by unfold nodeText; simp only [Int.reduceEq, if_false, if_true]; rfl)
      simp only [go_sem, hA, rtSt, encL_length, g1, List.take_length]
      refine goCall 300 ci rfl (by simp only [go_sem]) (by simp only [go_sem, hA]) ?_
      simp only [go_sem, hA, ht, Tryz.results61]
    · subst hk
      have ht : txE (.mk 2 n m i d s) = _ := htx.trans (by unfold nodeText; simp only [Int.reduceEq, if_false, if_true]; rfl)
      simp only [go_sem, hA, rtSt, encL_length, g1, List.take_length, Int.reduceEq]
      by_cases h1 : i = 1
      · have g2 : decide (i = 1) = true := decide_eq_true h1
        rw [if_pos h1] at ht
        simp only [go_sem, hA, g2, ht, Tryz.results61]
      · have g2 : decide (i = 1) = false := decide_eq_false h1
        rw [if_neg h1] at ht
        simp only [go_sem, hA, g2, ht, Tryz.results61]
    · subst hk
      have ht : txE (.mk 3 n m i d s) = _ := htx.trans (by unfold nodeText; simp only [Int.reduceEq, if_false, if_true]; rfl)
      simp only [go_sem, hA, rtSt, encL_length, g1, List.take_length, Int.reduceEq, ht, Tryz.results61]
    · subst hk
      have ht : txE (.mk 4 n m i d s) = _ := htx.trans (by unfold nodeText; simp only [Int.reduceEq, if_false, if_true]; rfl)
      simp only [go_sem, hA, rtSt, encL_length, g1, List.take_length, Int.reduceEq, ht, Tryz.results61]
      repeat' apply And.intro
      all_goals first | omega | (rw [encS_length, hLl]; omega) | kernel_rfl
    · subst hk
      have ht : txE (.mk 6 n m i d s) = _ := htx.trans (by unfold nodeText; simp only [Int.reduceEq, if_false, if_true]; rfl)
      have ha : 1 ≤ s.length := har
      simp only [go_sem, hA, rtSt, encL_length, g1, List.take_length, Int.reduceEq, mixed, encS_atB (txL s) 0 (by omega), ht, Tryz.results61]
      repeat' apply And.intro
      all_goals first | omega | (rw [encS_length, hLl]; omega) | kernel_rfl
    · subst hk
      have ht : txE (.mk 7 n m i d s) = _ := htx.trans (by unfold nodeText; simp only [Int.reduceEq, if_false, if_true]; rfl)
      have ha : 2 ≤ s.length := har
      simp only [go_sem, hA, rtSt, encL_length, g1, List.take_length, Int.reduceEq, mixed, encS_atB (txL s) 0 (by omega), encS_atB (txL s) 1 (by omega), ht, Tryz.results61]
      repeat' apply And.intro
      all_goals first | omega | (rw [encS_length, hLl]; omega) | kernel_rfl
    · subst hk
      have ht : txE (.mk 8 n m i d s) = _ := htx.trans (by unfold nodeText; simp only [Int.reduceEq, if_false, if_true]; rfl)
      have ha : 2 ≤ s.length := har
      simp only [go_sem, hA, rtSt, encL_length, g1, List.take_length, Int.reduceEq, mixed, encS_atB (txL s) 0 (by omega), encS_atB (txL s) 1 (by omega), ht, Tryz.results61]
      repeat' apply And.intro
      all_goals first | omega | (rw [encS_length, hLl]; omega) | kernel_rfl
    · subst hk
      have ht : txE (.mk 9 n m i d s) = _ := htx.trans (by unfold nodeText; simp only [Int.reduceEq, if_false, if_true]; rfl)
      have ha : 3 ≤ s.length := har
      simp only [go_sem, hA, rtSt, encL_length, g1, List.take_length, Int.reduceEq, mixed, encS_atB (txL s) 0 (by omega), encS_atB (txL s) 1 (by omega), encS_atB (txL s) 2 (by omega), ht, Tryz.results61]
      repeat' apply And.intro
      all_goals first | omega | (rw [encS_length, hLl]; omega) | kernel_rfl
    · subst hk
      have ht : txE (.mk 10 n m i d s) = _ := htx.trans (by unfold nodeText; simp only [Int.reduceEq, if_false, if_true]; rfl)
      have ha : 2 ≤ s.length := har
      simp only [go_sem, hA, rtSt, encL_length, g1, List.take_length, Int.reduceEq, mixed, encS_atB (txL s) 0 (by omega), encS_atB (txL s) 1 (by omega), ht, Tryz.results61]
      repeat' apply And.intro
      all_goals first | omega | (rw [encS_length, hLl]; omega) | kernel_rfl
    · subst hk
      have ht : txE (.mk 12 n m i d s) = _ := htx.trans (by unfold nodeText; simp only [Int.reduceEq, if_false, if_true]; rfl)
      have ha : 2 ≤ s.length := har
      simp only [go_sem, hA, rtSt, encL_length, g1, List.take_length, Int.reduceEq, mixed, encS_atB (txL s) 0 (by omega), encS_atB (txL s) 1 (by omega), ht, Tryz.results61]
      repeat' apply And.intro
      all_goals first | omega | (rw [encS_length, hLl]; omega) | kernel_rfl
    · subst hk
      have ht : txE (.mk 13 n m i d s) = _ := htx.trans (by unfold nodeText; simp only [Int.reduceEq, if_false, if_true]; rfl)
      have ha : 3 ≤ s.length := har
      simp only [go_sem, hA, rtSt, encL_length, g1, List.take_length, Int.reduceEq, mixed, encS_atB (txL s) 0 (by omega), encS_atB (txL s) 1 (by omega), encS_atB (txL s) 2 (by omega), ht, Tryz.results61]
      repeat' apply And.intro
      all_goals first | omega | (rw [encS_length, hLl]; omega) | kernel_rfl
    · subst hk
      have ht : txE (.mk 14 n m i d s) = _ := htx.trans (by unfold nodeText; simp only [Int.reduceEq, if_false, if_true]; rfl)
      simp only [go_sem, hA, rtSt, encL_length, g1, List.take_length, Int.reduceEq, mixed]
      refine goCallD 300 ci rfl (by simp only [go_sem]) (by simp only [go_sem, hA]) ?_
      simp only [go_sem, hA]
      repeat' apply And.intro
      all_goals first | omega | skip
      refine goCallD 300 cd rfl (by simp only [go_sem]) (by simp only [go_sem, hA]) ?_
      simp only [go_sem, hA, ht, Tryz.results61]
      repeat' apply And.intro
      all_goals first | omega | kernel_rfl
    · subst hk
      have ht : txE (.mk 15 n m i d s) = _ := htx.trans (by unfold nodeText; simp only [Int.reduceEq, if_false, if_true]; rfl)
      have ha : 3 ≤ s.length := har
      simp only [go_sem, hA, rtSt, encL_length, g1, List.take_length, Int.reduceEq, mixed, encS_atB (txL s) 0 (by omega), encS_atB (txL s) 1 (by omega), encS_atB (txL s) 2 (by omega), ht, Tryz.results61]
      repeat' apply And.intro
      all_goals first | omega | (rw [encS_length, hLl]; omega) | kernel_rfl
    · have ht : txE (.mk k n m i d s) = bs [110, 105, 108] := htx.trans (by unfold nodeText; simp only [hk, if_false])
      simp only [go_sem, hA, rtSt, encL_length, g1, List.take_length, hk, ht, Tryz.results61]
theorem rtext_c (N : Nat) : ∀ t : Ex, nodesE t < N → nodesE t ≤ 1048576 → okE t = true → Con Tryz.prog 61 [avE t] (.d (.raw (.string (txE t)))) := by
  induction N with
  | zero => intro t h; omega
  | succ N ih => intro t h hb hok; cases t; exact rtext_step N ih _ _ _ _ _ _ h hb hok
end Go.Proofs.YtnphcjpccieljaaGreatDoor

namespace Go.Proofs.YtnphcjpccieljaaGreatDoor
open Go Go.RowKit
theorem rfree_c (N : Nat) : ∀ (t : Ex) (bd l : List ByteArray), nodesE t < N → 2 * nodesE t + bd.length ≤ 1048576 → nodesE t + l.length ≤ 1048576 → Con Tryz.prog 62 [avE t, .d (.sl (encS bd)), .d (.sl (encS l))] (.d (.sl (encS (freeE t bd l)))) := by
  induction N with
  | zero => intro t bd l h; omega
  | succ N ih => intro t bd l h hb hl; cases t; exact rfree_step N ih _ _ _ _ _ _ bd l h hb hl
def freeX (t : Ex) : List ByteArray := if checkX t = 0 then freeE t [] [] else []
set_option maxRecDepth 100000 in
set_option maxHeartbeats 4000000 in
theorem rFree_c (t : Ex) (hb : nodesE t ≤ 524288) : Con Tryz.prog 30 [avE t] (.d (.sl (encS (freeX t)))) := by
  have cf := rfree_c (nodesE t + 1) t [] [] (by omega) (by simp; omega) (by simp; omega)
  have cc := rCheckExpr_c t (by omega)
  refine con_of Tryz.func30 rfl (by decide +kernel) rfl (by simp only [AV.closed, closedL, avE, closedL_d, Bool.and_self]) (by simp [Tryz.ntmps30]) fun A hA => ?_
  rw [Tryz.ntmps30] at hA
  refine goC 300 ?_
  simp only [go_sem, hA, avE_eq]
  refine goCall 300 cc rfl (by simp only [go_sem, avE_eq]) (by simp only [go_sem, hA]) ?_
  by_cases h : checkX t = 0
  · have g0 : (decide ¬ checkX t = 0) = false := by simpa using h
    have hx : freeX t = freeE t [] [] := if_pos h
    simp only [go_sem, hA, g0]
    refine goCall 300 cf rfl (by simp only [go_sem, avE_eq]; rfl) (by simp only [go_sem, hA]) ?_
    simp only [go_sem, hA, hx, Tryz.results30]
  · have g0 : (decide ¬ checkX t = 0) = true := by simpa using h
    have hx : freeX t = [] := if_neg h
    simp only [go_sem, hA, g0, hx, Tryz.results30]
    rfl
/-- the text of an expression, and why it has none -/
def exprX (t : Ex) : ByteArray × Int := if checkX t = 0 then (if kindsE 5 t then (⟨#[]⟩, 9) else if 65536 < (txE t).size then (⟨#[]⟩, 4) else (txE t, 0)) else (⟨#[]⟩, checkX t)
set_option maxRecDepth 100000 in
set_option maxHeartbeats 4000000 in
theorem rExpr_c (t : Ex) (hb : nodesE t ≤ 524288) (hok : checkX t = 0 → kindsE 5 t = false → okE t = true) : Con Tryz.prog 28 [avE t] (.tup [.d (.raw (.string (exprX t).1)), .d (.raw (.int .i64 (exprX t).2))]) := by
  have cc := rCheckExpr_c t (by omega)
  have ck := rKinds_c 5 (nodesE t + 1) t (by omega) (by omega)
  refine con_of Tryz.func28 rfl (by decide +kernel) rfl (by simp only [AV.closed, closedL, avE, closedL_d, Bool.and_self]) (by simp [Tryz.ntmps28]) fun A hA => ?_
  rw [Tryz.ntmps28] at hA
  refine goC 300 ?_
  simp only [go_sem, hA, avE_eq]
  refine goCall 300 cc rfl (by simp only [go_sem, avE_eq]) (by simp only [go_sem, hA]) ?_
  by_cases h : checkX t = 0
  · have g0 : (decide ¬ checkX t = 0) = false := by simpa using h
    simp only [go_sem, hA, g0]
    cases hk : kindsE 5 t with
    | true =>
      rw [hk] at ck
      have hx : exprX t = (⟨#[]⟩, 9) := by unfold exprX; rw [if_pos h, hk, if_pos rfl]
      refine goCall 300 ck rfl (by simp only [go_sem, avE_eq]) (by simp only [go_sem, hA]) ?_
      simp only [go_sem, hA, hx, Tryz.results28]
    | false =>
      rw [hk] at ck
      have ct := rtext_c (nodesE t + 1) t (by omega) (by omega) (hok h hk)
      refine goCall 300 ck rfl (by simp only [go_sem, avE_eq]) (by simp only [go_sem, hA]) ?_
      simp only [go_sem, hA]
      refine goCall 300 ct rfl (by simp only [go_sem, avE_eq]) (by simp only [go_sem, hA]) ?_
      by_cases hs : 65536 < (txE t).size
      · have g1 : decide ((65536 : Int) < ((txE t).size : Int)) = true := decide_eq_true (by omega)
        have hx : exprX t = (⟨#[]⟩, 4) := by unfold exprX; rw [if_pos h, hk, if_neg (by simp), if_pos hs]
        simp only [go_sem, hA, g1, hx, Tryz.results28]
      · have g1 : decide ((65536 : Int) < ((txE t).size : Int)) = false := decide_eq_false (by omega)
        have hx : exprX t = (txE t, 0) := by unfold exprX; rw [if_pos h, hk, if_neg (by simp), if_neg hs]
        simp only [go_sem, hA, g1, hx, Tryz.results28]
  · have g0 : (decide ¬ checkX t = 0) = true := by simpa using h
    have hx : exprX t = (⟨#[]⟩, checkX t) := if_neg h
    simp only [go_sem, hA, g0, hx, Tryz.results28]
end Go.Proofs.YtnphcjpccieljaaGreatDoor

namespace Go.Proofs.YtnphcjpccieljaaGreatDoor
open Go Go.RowKit
theorem below_grow (w : World) (k : Nat) (os : Array Obj) : Below w.heap.size w (Go.Sort.grow (w.drewN k) os) := by
  refine ⟨rfl, rfl, rfl, by simp [Go.Sort.grow, World.drewN], fun i hi => ?_⟩
  show (w.heap ++ os)[i]? = _
  rw [Array.getElem?_append_left hi]
theorem itoa_c (n : Int) (hn : inI64 n) : Con Tryz.prog 72 [.d (.raw (.int .i64 n))] (.d (.raw (.string (itoaB n)))) := by
  refine ⟨⟨_, Tryz.func72, by decide +kernel, rfl⟩, rfl, fun F w vs hF hG hl hv => ?_⟩
  match vs, hl with
  | [v], _ =>
    have h0 := hv 0 (by simp) (by simp)
    simp only [List.getElem_cons_zero] at h0
    unfold HasC at h0
    rw [h0.raw_eq]
    unfold inI64 at hn
    refine (Tryz.strconv_Itoa n (by omega) (by omega) w (hG 3 (by kernel_rfl))).mono ?_
    rintro e w' ⟨rfl, k, os, rfl⟩
    exact ⟨_, rfl, .d (.raw _), below_grow w k os⟩
set_option maxRecDepth 100000 in
set_option maxHeartbeats 8000000 in
theorem texts_1 (t : Ex) (L : List ByteArray) (ht : t.kind = 1) (hok : okN t.kind t.name t.more t.int t.den L.length = true) (_hL : sumB L ≤ 1099511627776) : Con Tryz.prog 88 [avE t, .d (.sl (encS L))] (.d (.raw (.string (nodeText t.kind t.name t.more t.int t.den L)))) := by
  obtain ⟨har, hn, hm, hi, hd, hk5⟩ := okN_iff hok
  have h3 := sumB_three L
  have zi := itoaB_size t.int (by unfold inI64; omega)
  have zd := itoaB_size t.den (by unfold inI64; omega)
  have ci := itoa_c t.int (by unfold inI64; omega)
  have cd := itoa_c t.den (by unfold inI64; omega)
  rw [ht] at har ⊢
  have hx : nodeText 1 t.name t.more t.int t.den L = _ := (rfl : nodeText 1 t.name t.more t.int t.den L = nodeText 1 t.name t.more t.int t.den L).trans (by unfold nodeText; simp only [Int.reduceEq, if_false, if_true]; rfl)
  refine con_of Tryz.func88 rfl (by decide +kernel) rfl (by simp only [AV.closed, closedL, avE, closedL_d, Bool.and_self]) (by simp [Tryz.ntmps88]) fun A hA => ?_
  rw [Tryz.ntmps88] at hA
  refine goC 300 ?_
  simp only [go_sem, hA, avE_eq]
  refine goCall 300 ci rfl (by simp only [go_sem]) (by simp only [go_sem, hA]) ?_
  simp only [go_sem, hA, hx, Tryz.results88]
set_option maxRecDepth 100000 in
set_option maxHeartbeats 8000000 in
theorem texts_2 (t : Ex) (L : List ByteArray) (ht : t.kind = 2) (hok : okN t.kind t.name t.more t.int t.den L.length = true) (_hL : sumB L ≤ 1099511627776) : Con Tryz.prog 89 [avE t, .d (.sl (encS L))] (.d (.raw (.string (nodeText t.kind t.name t.more t.int t.den L)))) := by
  obtain ⟨har, hn, hm, hi, hd, hk5⟩ := okN_iff hok
  have h3 := sumB_three L
  have zi := itoaB_size t.int (by unfold inI64; omega)
  have zd := itoaB_size t.den (by unfold inI64; omega)
  have ci := itoa_c t.int (by unfold inI64; omega)
  have cd := itoa_c t.den (by unfold inI64; omega)
  rw [ht] at har ⊢
  have hx : nodeText 2 t.name t.more t.int t.den L = _ := (rfl : nodeText 2 t.name t.more t.int t.den L = nodeText 2 t.name t.more t.int t.den L).trans (by unfold nodeText; simp only [Int.reduceEq, if_false, if_true]; rfl)
  refine con_of Tryz.func89 rfl (by decide +kernel) rfl (by simp only [AV.closed, closedL, avE, closedL_d, Bool.and_self]) (by simp [Tryz.ntmps89]) fun A hA => ?_
  rw [Tryz.ntmps89] at hA
  refine goC 300 ?_
  by_cases h1 : t.int = 1
  · have g2 : decide (t.int = 1) = true := decide_eq_true h1
    rw [if_pos h1] at hx
    simp only [go_sem, hA, avE_eq, g2, hx, Tryz.results89]
  · have g2 : decide (t.int = 1) = false := decide_eq_false h1
    rw [if_neg h1] at hx
    simp only [go_sem, hA, avE_eq, g2, hx, Tryz.results89]
set_option maxRecDepth 100000 in
set_option maxHeartbeats 8000000 in
theorem texts_3 (t : Ex) (L : List ByteArray) (ht : t.kind = 3) (hok : okN t.kind t.name t.more t.int t.den L.length = true) (_hL : sumB L ≤ 1099511627776) : Con Tryz.prog 90 [avE t, .d (.sl (encS L))] (.d (.raw (.string (nodeText t.kind t.name t.more t.int t.den L)))) := by
  obtain ⟨har, hn, hm, hi, hd, hk5⟩ := okN_iff hok
  have h3 := sumB_three L
  have zi := itoaB_size t.int (by unfold inI64; omega)
  have zd := itoaB_size t.den (by unfold inI64; omega)
  have ci := itoa_c t.int (by unfold inI64; omega)
  have cd := itoa_c t.den (by unfold inI64; omega)
  rw [ht] at har ⊢
  have hx : nodeText 3 t.name t.more t.int t.den L = _ := (rfl : nodeText 3 t.name t.more t.int t.den L = nodeText 3 t.name t.more t.int t.den L).trans (by unfold nodeText; simp only [Int.reduceEq, if_false, if_true]; rfl)
  refine con_of Tryz.func90 rfl (by decide +kernel) rfl (by simp only [AV.closed, closedL, avE, closedL_d, Bool.and_self]) (by simp [Tryz.ntmps90]) fun A hA => ?_
  rw [Tryz.ntmps90] at hA
  refine goC 300 ?_
  simp only [go_sem, hA, avE_eq, hx, Tryz.results90]
set_option maxRecDepth 100000 in
set_option maxHeartbeats 8000000 in
theorem texts_4 (t : Ex) (L : List ByteArray) (ht : t.kind = 4) (hok : okN t.kind t.name t.more t.int t.den L.length = true) (_hL : sumB L ≤ 1099511627776) : Con Tryz.prog 91 [avE t, .d (.sl (encS L))] (.d (.raw (.string (nodeText t.kind t.name t.more t.int t.den L)))) := by
  obtain ⟨har, hn, hm, hi, hd, hk5⟩ := okN_iff hok
  have h3 := sumB_three L
  have zi := itoaB_size t.int (by unfold inI64; omega)
  have zd := itoaB_size t.den (by unfold inI64; omega)
  have ci := itoa_c t.int (by unfold inI64; omega)
  have cd := itoa_c t.den (by unfold inI64; omega)
  rw [ht] at har ⊢
  have hx : nodeText 4 t.name t.more t.int t.den L = _ := (rfl : nodeText 4 t.name t.more t.int t.den L = nodeText 4 t.name t.more t.int t.den L).trans (by unfold nodeText; simp only [Int.reduceEq, if_false, if_true]; rfl)
  refine con_of Tryz.func91 rfl (by decide +kernel) rfl (by simp only [AV.closed, closedL, avE, closedL_d, Bool.and_self]) (by simp [Tryz.ntmps91]) fun A hA => ?_
  rw [Tryz.ntmps91] at hA
  refine goC 300 ?_
  simp only [go_sem, hA, avE_eq, hx, Tryz.results91]
  repeat' apply And.intro
  all_goals first | omega | (rw [encS_length]; omega) | kernel_rfl
set_option maxRecDepth 100000 in
set_option maxHeartbeats 8000000 in
theorem texts_6 (t : Ex) (L : List ByteArray) (ht : t.kind = 6) (hok : okN t.kind t.name t.more t.int t.den L.length = true) (hL : sumB L ≤ 1099511627776) : Con Tryz.prog 92 [avE t, .d (.sl (encS L))] (.d (.raw (.string (nodeText t.kind t.name t.more t.int t.den L)))) := by
  obtain ⟨har, hn, hm, hi, hd, hk5⟩ := okN_iff hok
  have h3 := sumB_three L
  have zi := itoaB_size t.int (by unfold inI64; omega)
  have zd := itoaB_size t.den (by unfold inI64; omega)
  have ci := itoa_c t.int (by unfold inI64; omega)
  have cd := itoa_c t.den (by unfold inI64; omega)
  rw [ht] at har ⊢
  have hx : nodeText 6 t.name t.more t.int t.den L = _ := (rfl : nodeText 6 t.name t.more t.int t.den L = nodeText 6 t.name t.more t.int t.den L).trans (by unfold nodeText; simp only [Int.reduceEq, if_false, if_true]; rfl)
  have ha : 1 ≤ L.length := har
  refine con_of Tryz.func92 rfl (by decide +kernel) rfl (by simp only [AV.closed, closedL, avE, closedL_d, Bool.and_self]) (by simp [Tryz.ntmps92]) fun A hA => ?_
  rw [Tryz.ntmps92] at hA
  refine goC 300 ?_
  simp only [go_sem, hA, avE_eq, mixed, encS_atB L 0 (by omega), hx, Tryz.results92]
  repeat' apply And.intro
  all_goals first | omega | (rw [encS_length]; omega) | kernel_rfl
set_option maxRecDepth 100000 in
set_option maxHeartbeats 8000000 in
theorem texts_8 (t : Ex) (L : List ByteArray) (ht : t.kind = 8) (hok : okN t.kind t.name t.more t.int t.den L.length = true) (hL : sumB L ≤ 1099511627776) : Con Tryz.prog 94 [avE t, .d (.sl (encS L))] (.d (.raw (.string (nodeText t.kind t.name t.more t.int t.den L)))) := by
  obtain ⟨har, hn, hm, hi, hd, hk5⟩ := okN_iff hok
  have h3 := sumB_three L
  have zi := itoaB_size t.int (by unfold inI64; omega)
  have zd := itoaB_size t.den (by unfold inI64; omega)
  have ci := itoa_c t.int (by unfold inI64; omega)
  have cd := itoa_c t.den (by unfold inI64; omega)
  rw [ht] at har ⊢
  have hx : nodeText 8 t.name t.more t.int t.den L = _ := (rfl : nodeText 8 t.name t.more t.int t.den L = nodeText 8 t.name t.more t.int t.den L).trans (by unfold nodeText; simp only [Int.reduceEq, if_false, if_true]; rfl)
  have ha : 2 ≤ L.length := har
  refine con_of Tryz.func94 rfl (by decide +kernel) rfl (by simp only [AV.closed, closedL, avE, closedL_d, Bool.and_self]) (by simp [Tryz.ntmps94]) fun A hA => ?_
  rw [Tryz.ntmps94] at hA
  refine goC 300 ?_
  simp only [go_sem, hA, avE_eq, mixed, encS_atB L 0 (by omega), encS_atB L 1 (by omega), hx, Tryz.results94]
  repeat' apply And.intro
  all_goals first | omega | (rw [encS_length]; omega) | kernel_rfl
set_option maxRecDepth 100000 in
set_option maxHeartbeats 8000000 in
theorem texts_10 (t : Ex) (L : List ByteArray) (ht : t.kind = 10) (hok : okN t.kind t.name t.more t.int t.den L.length = true) (hL : sumB L ≤ 1099511627776) : Con Tryz.prog 95 [avE t, .d (.sl (encS L))] (.d (.raw (.string (nodeText t.kind t.name t.more t.int t.den L)))) := by
  obtain ⟨har, hn, hm, hi, hd, hk5⟩ := okN_iff hok
  have h3 := sumB_three L
  have zi := itoaB_size t.int (by unfold inI64; omega)
  have zd := itoaB_size t.den (by unfold inI64; omega)
  have ci := itoa_c t.int (by unfold inI64; omega)
  have cd := itoa_c t.den (by unfold inI64; omega)
  rw [ht] at har ⊢
  have hx : nodeText 10 t.name t.more t.int t.den L = _ := (rfl : nodeText 10 t.name t.more t.int t.den L = nodeText 10 t.name t.more t.int t.den L).trans (by unfold nodeText; simp only [Int.reduceEq, if_false, if_true]; rfl)
  have ha : 2 ≤ L.length := har
  refine con_of Tryz.func95 rfl (by decide +kernel) rfl (by simp only [AV.closed, closedL, avE, closedL_d, Bool.and_self]) (by simp [Tryz.ntmps95]) fun A hA => ?_
  rw [Tryz.ntmps95] at hA
  refine goC 300 ?_
  simp only [go_sem, hA, avE_eq, mixed, encS_atB L 0 (by omega), encS_atB L 1 (by omega), hx, Tryz.results95]
  repeat' apply And.intro
  all_goals first | omega | (rw [encS_length]; omega) | kernel_rfl
set_option maxRecDepth 100000 in
set_option maxHeartbeats 8000000 in
theorem texts_13 (t : Ex) (L : List ByteArray) (ht : t.kind = 13) (hok : okN t.kind t.name t.more t.int t.den L.length = true) (hL : sumB L ≤ 1099511627776) : Con Tryz.prog 96 [avE t, .d (.sl (encS L))] (.d (.raw (.string (nodeText t.kind t.name t.more t.int t.den L)))) := by
  obtain ⟨har, hn, hm, hi, hd, hk5⟩ := okN_iff hok
  have h3 := sumB_three L
  have zi := itoaB_size t.int (by unfold inI64; omega)
  have zd := itoaB_size t.den (by unfold inI64; omega)
  have ci := itoa_c t.int (by unfold inI64; omega)
  have cd := itoa_c t.den (by unfold inI64; omega)
  rw [ht] at har ⊢
  have hx : nodeText 13 t.name t.more t.int t.den L = _ := (rfl : nodeText 13 t.name t.more t.int t.den L = nodeText 13 t.name t.more t.int t.den L).trans (by unfold nodeText; simp only [Int.reduceEq, if_false, if_true]; rfl)
  have ha : 3 ≤ L.length := har
  refine con_of Tryz.func96 rfl (by decide +kernel) rfl (by simp only [AV.closed, closedL, avE, closedL_d, Bool.and_self]) (by simp [Tryz.ntmps96]) fun A hA => ?_
  rw [Tryz.ntmps96] at hA
  refine goC 300 ?_
  simp only [go_sem, hA, avE_eq, mixed, encS_atB L 0 (by omega), encS_atB L 1 (by omega), encS_atB L 2 (by omega), hx, Tryz.results96]
  repeat' apply And.intro
  all_goals first | omega | (rw [encS_length]; omega) | kernel_rfl
set_option maxRecDepth 100000 in
set_option maxHeartbeats 8000000 in
theorem texts_14 (t : Ex) (L : List ByteArray) (ht : t.kind = 14) (hok : okN t.kind t.name t.more t.int t.den L.length = true) (_hL : sumB L ≤ 1099511627776) : Con Tryz.prog 97 [avE t, .d (.sl (encS L))] (.d (.raw (.string (nodeText t.kind t.name t.more t.int t.den L)))) := by
  obtain ⟨har, hn, hm, hi, hd, hk5⟩ := okN_iff hok
  have h3 := sumB_three L
  have zi := itoaB_size t.int (by unfold inI64; omega)
  have zd := itoaB_size t.den (by unfold inI64; omega)
  have ci := itoa_c t.int (by unfold inI64; omega)
  have cd := itoa_c t.den (by unfold inI64; omega)
  rw [ht] at har ⊢
  have hx : nodeText 14 t.name t.more t.int t.den L = _ := (rfl : nodeText 14 t.name t.more t.int t.den L = nodeText 14 t.name t.more t.int t.den L).trans (by unfold nodeText; simp only [Int.reduceEq, if_false, if_true]; rfl)
  refine con_of Tryz.func97 rfl (by decide +kernel) rfl (by simp only [AV.closed, closedL, avE, closedL_d, Bool.and_self]) (by simp [Tryz.ntmps97]) fun A hA => ?_
  rw [Tryz.ntmps97] at hA
  refine goC 300 ?_
  simp only [go_sem, hA, avE_eq, mixed]
  refine goCallD 300 ci rfl (by simp only [go_sem]) (by simp only [go_sem, hA]) ?_
  simp only [go_sem, hA]
  repeat' apply And.intro
  all_goals first | omega | skip
  refine goCallD 300 cd rfl (by simp only [go_sem]) (by simp only [go_sem, hA]) ?_
  simp only [go_sem, hA, hx, Tryz.results97]
  repeat' apply And.intro
  all_goals first | omega | kernel_rfl
end Go.Proofs.YtnphcjpccieljaaGreatDoor

namespace Go.Proofs.YtnphcjpccieljaaGreatDoor
open Go Go.RowKit
theorem reads_strs {w : World} {F : Nat → Nat → Prop} {l : List ByteArray} {v : Value} (h : Reads w F (.sl (encS l)) v) :
    (l = [] ∧ ∃ p cap, v = .slice p 0 cap) ∨ (0 < l.length ∧ ∃ b off cap, v = .slice (some ⟨b, off, none⟩) l.length cap ∧ l.length ≤ cap ∧ F b (off + 0 * 1 + 0) ∧ ∀ j, j < l.length → w.cell? ⟨b, off + j, none⟩ = some (.string (l.getD j ByteArray.empty))) := by
  obtain ⟨p, cap, rfl, hcap⟩ := h.slice
  rw [encS_length] at hcap h ⊢
  by_cases hz : l.length = 0
  · left
    have : l = [] := List.eq_nil_of_length_eq_zero hz
    subst this
    exact ⟨rfl, p, cap, rfl⟩
  · right
    have hrow : ∀ i (hi : i < l.length), (encS l)[i]'(by rw [encS_length]; exact hi) = [.raw (.string l[i])] := fun i hi => by simp [encS]
    have h0 := h.row 0 (by rw [encS_length]; omega) (st := 1) (by rw [hrow 0 (by omega)]; rfl)
    obtain ⟨b, off, rfl, hc0⟩ := h0
    refine ⟨by omega, b, off, cap, rfl, hcap, (hc0 0 (by rw [hrow 0 (by omega)]; exact Nat.one_pos)).1, fun j hj => ?_⟩
    obtain ⟨b', off', he, hcj⟩ := h.row j (by rw [encS_length]; omega) (st := 1) (by rw [hrow j hj]; rfl)
    obtain ⟨_, u, hu, hr⟩ := hcj 0 (by rw [hrow j hj]; exact Nat.one_pos)
    have hbb : b' = b ∧ off' = off := by
      injection he with he
      injection he with he1 he2
      exact ⟨he1.symm, he2.symm⟩
    obtain ⟨rfl, rfl⟩ := hbb
    have e : ((encS l)[j]'(by rw [encS_length]; exact hj))[0]'(by rw [hrow j hj]; exact Nat.one_pos) = .raw (.string l[j]) := by simp only [hrow j hj, List.getElem_cons_zero]
    rw [e] at hr
    rw [hr.raw_eq, Nat.mul_one, Nat.add_zero] at hu
    rw [hu]
    simp [List.getD_eq_getElem?_getD, hj]
theorem contains_c (l : List ByteArray) (s : ByteArray) (hl : l.length ≤ 1048576) : Con Tryz.prog 85 [.d (.sl (encS l)), .d (.raw (.string s))] (.d (.raw (.bool (hasS l s)))) := by
  refine ⟨⟨_, Tryz.func85, by decide +kernel, rfl⟩, rfl, fun F w vs hF _ hlen hv => ?_⟩
  match vs, hlen with
  | [v, v'], _ =>
    have h0 := hv 0 (by simp) (by simp)
    have h1 := hv 1 (by simp) (by simp)
    simp only [List.getElem_cons_zero, List.getElem_cons_succ] at h0 h1
    unfold HasC at h0 h1
    rw [h1.raw_eq]
    rcases reads_strs h0.sl with ⟨rfl, p, cap, rfl⟩ | ⟨hpos, b, off, cap, rfl, _, _, hc⟩
    · refine (Tryz.slices_Contains_string_empty p cap s w).mono ?_
      rintro e w' ⟨rfl, rfl⟩
      exact ⟨_, rfl, .d (.raw _), Below.refl _ _⟩
    · refine (Tryz.slices_Contains_string b off l.length cap l s w (Nat.le_refl _) (by omega) hc).mono ?_
      rintro e w' ⟨rfl, rfl⟩
      refine ⟨_, rfl, ?_, Below.refl _ _⟩
      have he : Lib.containsS (l.take l.length) s = hasS l s := by
        rw [List.take_length, Bool.eq_iff_iff, Lib.containsS_iff, hasS, List.any_eq_true]
        simp
      rw [he]
      exact .d (.raw _)
theorem clone_c (l : List ByteArray) (hl : l.length ≤ 1048576) : ConT Tryz.prog 70 [.d (.sl (encS l))] 1 9 (encS l) := by
  refine ⟨⟨_, Tryz.func70, by decide +kernel, rfl⟩, fun i h => encS_row l _ (List.getElem_mem h), fun F w vs hF _ hlen hv => ?_⟩
  match vs, hlen with
  | [v], _ =>
    have h0 := hv 0 (by simp) (by simp)
    simp only [List.getElem_cons_zero] at h0
    unfold HasC at h0
    rcases reads_strs h0.sl with ⟨rfl, p, cap, rfl⟩ | ⟨hpos, b, off, cap, rfl, _, _, hc⟩
    · cases p with
      | none =>
        refine (Tryz.slices_Clone_string_nil 0 cap w).mono ?_
        rintro e w' ⟨rfl, rfl⟩
        exact ⟨_, [], rfl, World.ownsRow_nil _ _ _ _, fun i hi => by simp [encS] at hi, Below.refl _ _⟩
      | some a =>
        refine (Tryz.slices_Clone_string_zero a cap w).mono ?_
        rintro e w' ⟨v', rfl, ho, _, hb⟩
        exact ⟨_, [], rfl, ho, fun i hi => by simp [encS] at hi, hb⟩
    · refine (Tryz.slices_Clone_string b off l.length cap l w (Nat.le_refl _) (by omega) hc).mono ?_
      rintro e w' ⟨v', rfl, ho, _, hb⟩
      refine ⟨v', _, rfl, by rw [encS_length]; exact ho, fun i hi j hj => ?_, hb⟩
      have hi' : i < l.length := by rw [encS_length] at hi; exact hi
      have hrow : (encS l)[i] = [.raw (.string l[i])] := by simp [encS]
      have hj0 : j = 0 := by
        rw [hrow] at hj
        simpa using hj
      subst hj0
      have e : (encS l)[i][0] = .raw (.string l[i]) := by simp only [hrow, List.getElem_cons_zero]
      rw [e]
      exact ⟨.string l[i], by simp [hi'], .raw _⟩
/-- a set of names as a map: its keys, its values -/
abbrev keysS (fs : List ByteArray) : List Value := fs.map Value.string
abbrev truesS (fs : List ByteArray) : List AV := List.replicate fs.length (.d (.raw (.bool true)))
def addS (fs : List ByteArray) (s : ByteArray) : List ByteArray := if hasS fs s then fs else fs ++ [s]
theorem findIx_keys (s : ByteArray) : ∀ fs : List ByteArray, (findIx (.string s) (keysS fs)).isSome = hasS fs s
  | [] => rfl
  | f :: fs => by
    have ih := findIx_keys s fs
    simp only [keysS, List.map_cons, findIx, keyEq, hasS, List.any_cons]
    by_cases h : s = f
    · subst h; simp
    · have h' : ¬ f = s := fun e => h e.symm
      simp only [h, h', decide_false, Bool.false_eq_true, if_false, Option.isSome_map, Bool.false_or]
      exact ih
theorem findIx_lt (s : ByteArray) : ∀ (fs : List ByteArray) (i : Nat), findIx (.string s) (keysS fs) = some i → i < fs.length
  | [], i, h => by simp [keysS, findIx] at h
  | f :: fs, i, h => by
    simp only [keysS, List.map_cons, findIx] at h
    split at h
    · cases h; simp
    · cases hf : findIx (.string s) (keysS fs) with
      | none => rw [show List.map Value.string fs = keysS fs from rfl, hf] at h; cases h
      | some j =>
        rw [show List.map Value.string fs = keysS fs from rfl, hf] at h
        cases h
        have := findIx_lt s fs j hf
        simp; omega
theorem putK_str (fs : List ByteArray) (s : ByteArray) : putK (keysS fs) (.string s) = keysS (addS fs s) := by
  have h := findIx_keys s fs
  unfold putK addS
  cases hf : findIx (.string s) (keysS fs) with
  | none => rw [hf] at h; rw [← h]; simp [keysS]
  | some i => rw [hf] at h; rw [← h]; rfl
theorem putC_str (fs : List ByteArray) (s : ByteArray) : putC (keysS fs) (truesS fs) (.string s) (.d (.raw (.bool true))) = truesS (addS fs s) := by
  have h := findIx_keys s fs
  unfold putC addS
  cases hf : findIx (.string s) (keysS fs) with
  | none =>
    rw [hf] at h
    rw [← h]
    simp only [Option.isSome_none, Bool.false_eq_true, if_false, truesS, List.length_append, List.length_cons, List.length_nil, List.replicate_succ', Nat.zero_add]
  | some i =>
    rw [hf] at h
    rw [← h]
    simp only [Option.isSome_some, if_true]
    have := findIx_lt s fs i hf
    apply List.ext_getElem
    · simp
    · intro j h1 h2
      simp []
theorem keysS_fit (fs : List ByteArray) : (keysS fs).all (keyFit .string) = true := by
  rw [List.all_eq_true]
  intro x hx
  obtain ⟨s, _, rfl⟩ := List.mem_map.1 hx
  rfl
theorem truesS_closed (fs : List ByteArray) : closedL (truesS fs) = true := by
  unfold truesS
  induction fs.length with
  | zero => rfl
  | succ n ih => rw [List.replicate_succ, closedL, ih]; rfl
mutual
/-- the free names of an expression, in the order in which they are met -/
def addE : Ex → List ByteArray → List ByteArray → List ByteArray
  | .mk k n m _ _ s, bd, fs => if k = 3 then (if hasS bd n then fs else addS fs n) else addL k n m 0 s bd fs
def addL (k : Int) (n m : ByteArray) : Nat → List Ex → List ByteArray → List ByteArray → List ByteArray
  | _, [], _, fs => fs
  | i, e :: es, bd, fs => addL k n m (i + 1) es bd (addE e (boundB k n m i bd) fs)
end
mutual
/-- parts as the kind has them -/
def shpE : Ex → Bool
  | .mk k _ _ _ _ s => (decide (k ≠ 6) || decide (s.length = 1)) && (decide (k ≠ 8) || decide (s.length = 2)) && (decide (k ≠ 13) || decide (s.length = 3)) && shpL s
def shpL : List Ex → Bool
  | [] => true
  | e :: es => shpE e && shpL es
end
theorem shpL_get : ∀ {l : List Ex} (i : Nat) (h : i < l.length), shpL l = true → shpE l[i] = true
  | e :: es, 0, _, h => by simp only [shpL, Bool.and_eq_true] at h; simpa using h.1
  | e :: es, i + 1, hi, h => by
    simp only [shpL, Bool.and_eq_true] at h
    simpa using shpL_get i (by simpa using hi) h.2
end Go.Proofs.YtnphcjpccieljaaGreatDoor
