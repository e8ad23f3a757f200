/- addFree of the program of layer 21, walked. between and texts of the program of layer 21, walked. Declarations: CheckDecl, names of the reference of layer 21, walked. -/
import Derived.Test.YtnphcjpccieljaaGreatDoorGYb
namespace Go.Proofs.YtnphcjpccieljaaGreatDoor
open Go Go.RowKit
theorem mentL_rep (r n : Nat) : mentL r (List.replicate n (AV.d (D.raw (Value.bool true)))) = false := by
  induction n with
  | zero => rfl
  | succ n ih => rw [List.replicate_succ, mentL, ih]; rfl
/-- what an operation wrote, without what a map holds -/
def RI.strip (r : RI) : RI := ⟨r.x, match r.e with
  | .blk q (.map tag _ _) => .blk q (.map tag [] [])
  | e => e, r.vs⟩
def stripL (rs : List RI) : List RI :=
  match rs.getLast? with
  | some r => rs.dropLast ++ [r.strip]
  | none => rs
theorem chk_of {all : List Oper} {base : Nat} {rs rs' : List RI} (hl : rs.length = rs'.length) (he : ∀ (i : Nat) (r r' : RI), rs[i]? = some r → rs'[i]? = some r' → r.x = r'.x ∧ r.vs = r'.vs ∧ r.e.ref = r'.e.ref ∧ ∀ q, r.e.ment q = r'.e.ment q) (h : chk all base rs' = true) : chk all base rs = true := by
  obtain ⟨h1, h2⟩ := chk_spec h
  unfold chk
  simp only [Bool.and_eq_true]
  refine ⟨?_, ?_⟩
  · rw [List.all_eq_true]
    intro x hx
    obtain ⟨k, hk⟩ := List.mem_iff_getElem?.1 hx
    rw [List.getElem?_zipIdx] at hk
    cases ha : all[k]? with
    | none => rw [ha] at hk; cases hk
    | some o =>
      rw [ha] at hk
      simp only [Option.map_some, Option.some.injEq, Nat.zero_add] at hk
      subst hk
      obtain ⟨hkl, hko⟩ := List.getElem?_eq_some_iff.1 ha
      rw [List.all_eq_true]
      intro d hd
      simp only [decide_eq_true_eq]
      exact h1 k hkl d (by rw [hko]; exact hd)
  · have get : ∀ a ∈ (all.zip rs).zipIdx, ∃ k o r r', a = ((o, r), k) ∧ all[k]? = some o ∧ rs[k]? = some r ∧ rs'[k]? = some r' := fun a ha => by
      obtain ⟨k, hk⟩ := List.mem_iff_getElem?.1 ha
      rw [List.getElem?_zipIdx] at hk
      cases hz : (all.zip rs)[k]? with
      | none => rw [hz] at hk; cases hk
      | some p =>
        rw [hz] at hk
        simp only [Option.map_some, Option.some.injEq, Nat.zero_add] at hk
        obtain ⟨o, r⟩ := p
        obtain ⟨z1, z2⟩ := List.getElem?_zip_eq_some.1 hz
        have hlt := (List.getElem?_eq_some_iff.1 z2).1
        exact ⟨k, o, r, rs'[k]'(by omega), hk.symm, z1, z2, by simp [show k < rs'.length by omega]⟩
    rw [List.all_eq_true]
    intro a ha
    rw [List.all_eq_true]
    intro b hb
    obtain ⟨i, oi, ri, ri', rfl, a1, a2, a3⟩ := get a ha
    obtain ⟨j, oj, rj, rj', rfl, b1, b2, b3⟩ := get b hb
    have h3 := h2 i oi ri' j oj rj' a1 a3 b1 b3
    obtain ⟨e1, e2, e3, e4⟩ := he i ri ri' a2 a3
    obtain ⟨f1, f2, f3, f4⟩ := he j rj rj' b2 b3
    simp only [pairOk, touch, e3, f1, f2, f3, f4] at h3 ⊢
    exact h3
theorem chk_last {all : List Oper} {base : Nat} {rs : List RI} (hf : ∀ r : RI, rs.getLast? = some r → ∀ q, r.e.ment q = false) (h : chk all base (stripL rs) = true) : chk all base rs = true := by
  unfold stripL at h
  cases hg : rs.getLast? with
  | none => rw [hg] at h; exact h
  | some r0 =>
    rw [hg] at h
    simp only at h
    have hne : rs ≠ [] := fun e => by rw [e] at hg; cases hg
    have hdl : rs = rs.dropLast ++ [r0] := by
      have h1 := List.dropLast_concat_getLast hne
      rw [List.getLast?_eq_some_getLast hne] at hg
      rw [← Option.some.inj hg]
      exact h1.symm
    have hlen : rs.length = (rs.dropLast ++ [r0.strip]).length := by
      have := congrArg List.length hdl
      simpa using this
    refine chk_of hlen (fun i r r' h1 h2 => ?_) h
    rw [hdl] at h1
    by_cases hlt : i < rs.dropLast.length
    · rw [List.getElem?_append_left hlt] at h1 h2
      rw [h1] at h2
      cases h2
      exact ⟨rfl, rfl, rfl, fun _ => rfl⟩
    · rw [List.getElem?_append_right (by omega)] at h1 h2
      have hi0 : i - rs.dropLast.length = 0 := by
        have := (List.getElem?_eq_some_iff.1 h1).1
        simp only [List.length_cons, List.length_nil] at this
        omega
      rw [hi0] at h1 h2
      simp only [List.getElem?_cons_zero, Option.some.injEq] at h1 h2
      subst h1 h2
      have hm := hf r0 hg
      obtain ⟨x, e, vs⟩ := r0
      refine ⟨rfl, rfl, ?_, fun q => ?_⟩
      · cases e with
        | none | tok => rfl
        | blk q b => cases b <;> rfl
      · have := hm q
        cases e with
        | none | tok => rfl
        | blk q' b => cases b with
          | cell | row | iter => rfl
          | map tag ks cs => rw [this]; rfl
abbrev afSt (k : Int) (n m : ByteArray) (i d : Int) (s : List Ex) (bd fs : List ByteArray) (b : Nat) (q : Nat) : St := ⟨[(1, .d (.sl (encS bd))), (2, .mp lentR), (3, .box 0 0), (86, .d (.sl (encL s))), (87, .d (.raw (.int .i64 s.length))), (88, .d (.raw (.int .i64 q)))], [(0, some (.cell 35 (cellsX k n m i d s))), (lentR, some (.map (some b) (keysS (addL k n m 0 (s.take q) bd fs)) (truesS (addL k n m 0 (s.take q) bd fs))))], []⟩
theorem addL_append (k : Int) (n m : ByteArray) : ∀ (i : Nat) (a b : List Ex) (bd l : List ByteArray), addL k n m i (a ++ b) bd l = addL k n m (i + a.length) b bd (addL k n m i a bd l)
  | i, [], b, bd, l => by simp [addL]
  | i, e :: es, b, bd, l => by
    simp only [List.cons_append, addL, addL_append k n m (i + 1) es b, List.length_cons]
    rw [show i + 1 + es.length = i + (es.length + 1) by omega]
theorem addL_take_succ (k : Int) (n m : ByteArray) (s : List Ex) (bd l : List ByteArray) (q : Nat) (h : q < s.length) : addL k n m 0 (s.take (q + 1)) bd l = addE s[q] (boundB k n m q bd) (addL k n m 0 (s.take q) bd l) := by
  rw [List.take_succ_eq_append_getElem h, addL_append]
  simp only [addL, List.length_take, Nat.zero_add]
  rw [Nat.min_eq_left (by omega)]
set_option maxRecDepth 100000 in
set_option maxHeartbeats 16000000 in
theorem addFree_step (N : Nat) (ih : ∀ (t : Ex) (bd fs : List ByteArray), nodesE t < N → 2 * nodesE t + bd.length ≤ 1048576 → shpE t = true → ConM Tryz.prog 56 [avE t, .d (.sl (encS bd))] (keysS fs) (truesS fs) (keysS (addE t bd fs)) (truesS (addE t bd fs)) (.tup []))
    (k : Int) (n m : ByteArray) (i d : Int) (s : List Ex) (bd fs : List ByteArray) (hN : nodesE (.mk k n m i d s) < N + 1) (hb : 2 * nodesE (.mk k n m i d s) + bd.length ≤ 1048576) (hs : shpE (.mk k n m i d s) = true) :
    ConM Tryz.prog 56 [avE (.mk k n m i d s), .d (.sl (encS bd))] (keysS fs) (truesS fs) (keysS (addE (.mk k n m i d s) bd fs)) (truesS (addE (.mk k n m i d s) bd fs)) (.tup []) := by
  rw [nodesE] at hN hb
  have hlen := length_le_nodesL s
  simp only [shpE, Bool.and_eq_true, Bool.or_eq_true, decide_eq_true_eq] at hs
  obtain ⟨⟨⟨hs6, hs8⟩, hs13⟩, hsL⟩ := hs
  have cC := contains_c bd n (by omega)
  have cK := clone_c bd (by omega)
  refine conM_of Tryz.func56 rfl (by decide +kernel) rfl (by simp only [AV.closed, closedL, avE, closedL_d, Bool.and_self]) (truesS_closed _) (truesS_closed _) (by simp [Tryz.ntmps56]) fun A hA b => ?_
  rw [Tryz.ntmps56] at hA
  refine goC 300 ?_
  by_cases h3 : k = 3
  · subst h3
    simp only [go_sem, hA, avE, encE, lentR, mentL_rep]
    cases hh : hasS bd n with
    | true =>
      rw [hh] at cC
      have he : addE (.mk 3 n m i d s) bd fs = fs := by rw [addE, if_pos rfl, hh]; rfl
      refine goCall 300 cC rfl (by simp only [go_sem]) (by simp only [go_sem, hA]) ?_
      simp only [go_sem, hA, he, lentR, Tryz.results56]
    | false =>
      rw [hh] at cC
      have he : addE (.mk 3 n m i d s) bd fs = addS fs n := by rw [addE, if_pos rfl, hh]; rfl
      refine goCall 300 cC rfl (by simp only [go_sem]) (by simp only [go_sem, hA]) ?_
      simp only [go_sem, hA, he, lentR, Tryz.results56]
      exact ⟨keysS_fit fs, by rw [← putK_str, ← putC_str]; rfl⟩
  by_cases h6 : k = 6
  · subst h6
    obtain ⟨e0, rfl⟩ : ∃ e0, s = [e0] := by
      rcases hs6 with h | h
      · exact absurd rfl h
      · match s, h with
        | [e0], _ => exact ⟨e0, rfl⟩
    simp only [shpL, Bool.and_true] at hsL
    simp only [nodesL] at hN hb
    have hc := ih e0 (bd ++ [n]) fs (by omega) (by simp; omega) hsL
    have he : addE (.mk 6 n m i d [e0]) bd fs = addE e0 (bd ++ [n]) fs := by rw [addE, if_neg (by decide)]; simp [addL, boundB]
    have hin : encS (bd ++ [n]) = encS bd ++ [[.raw (.string n)]] := by simp [encS]
    simp only [go_sem, hA, avE, encE, encL, encE_eq, lentR, Int.reduceEq, mentL_rep, mixed, List.getD_cons_zero]
    refine goCallDT 300 cK rfl rfl rfl (by simp only [go_sem]) (by simp only [go_sem, hA]) (by simp only [go_sem, mentL_rep]) ?_
    simp only [go_sem, hA, mentL_rep]
    refine ⟨⟨encS_fit [n], encS_row _, by rw [encS_length]; omega⟩, goCallDM 300 (args := [.tmp 25, .tmp 31]) (m := .tmp 32) hc rfl rfl rfl rfl rfl rfl (truesS_closed _) (by simp only [go_sem, avE_eq, hin]) (by simp only [go_sem, hA]) ?_⟩
    simp only [go_sem, he, lentR, Tryz.results56, and_true]
    exact chk_last (fun r h q => by rw [← Option.some.inj h]; exact mentL_rep q _) (by kernel_rfl)
  by_cases h8 : k = 8
  · subst h8
    obtain ⟨e0, e1, rfl⟩ : ∃ e0 e1, s = [e0, e1] := by
      rcases hs8 with h | h
      · exact absurd rfl h
      · match s, h with
        | [e0, e1], _ => exact ⟨e0, e1, rfl⟩
    simp only [shpL, Bool.and_true, Bool.and_eq_true] at hsL
    simp only [nodesL] at hN hb
    have hc0 := ih e0 bd fs (by omega) (by omega) hsL.1
    have hc1 := ih e1 (bd ++ [n]) (addE e0 bd fs) (by omega) (by simp; omega) hsL.2
    have he : addE (.mk 8 n m i d [e0, e1]) bd fs = addE e1 (bd ++ [n]) (addE e0 bd fs) := by rw [addE, if_neg (by decide)]; simp [addL, boundB]
    have hin : encS (bd ++ [n]) = encS bd ++ [[.raw (.string n)]] := by simp [encS]
    simp only [go_sem, hA, avE, encE, encL, encE_eq, lentR, Int.reduceEq, mentL_rep, List.getD_cons_zero]
    refine goCallM 300 (args := [.tmp 39, .tmp 40]) (m := .tmp 41) hc0 rfl rfl rfl rfl rfl rfl (truesS_closed _) (by simp only [go_sem, avE_eq]) (by simp only [go_sem, hA]) ?_
    simp only [go_sem, hA, mentL_rep, mixed, List.getD_cons_zero, List.getD_cons_succ]
    refine goCallDT 300 cK rfl rfl rfl (by simp only [go_sem]) (by simp only [go_sem, hA]) (by simp only [go_sem, mentL_rep]) ?_
    simp only [go_sem, hA, mentL_rep]
    refine ⟨⟨encS_fit [n], encS_row _, by rw [encS_length]; omega⟩, goCallDM 300 (args := [.tmp 46, .tmp 52]) (m := .tmp 53) hc1 rfl rfl rfl rfl rfl rfl (truesS_closed _) (by simp only [go_sem, avE_eq, hin]) (by simp only [go_sem, hA]) ?_⟩
    simp only [go_sem, he, lentR, Tryz.results56, and_true]
    exact chk_last (fun r h q => by rw [← Option.some.inj h]; exact mentL_rep q _) (by kernel_rfl)
  by_cases h13 : k = 13
  · subst h13
    obtain ⟨e0, e1, e2, rfl⟩ : ∃ e0 e1 e2, s = [e0, e1, e2] := by
      rcases hs13 with h | h
      · exact absurd rfl h
      · match s, h with
        | [e0, e1, e2], _ => exact ⟨e0, e1, e2, rfl⟩
    simp only [shpL, Bool.and_true, Bool.and_eq_true] at hsL
    simp only [nodesL] at hN hb
    have hc0 := ih e0 bd fs (by omega) (by omega) hsL.1
    have hc1 := ih e1 bd (addE e0 bd fs) (by omega) (by omega) hsL.2.1
    have hc2 := ih e2 (bd ++ [n, m]) (addE e1 bd (addE e0 bd fs)) (by omega) (by simp; omega) hsL.2.2
    have he : addE (.mk 13 n m i d [e0, e1, e2]) bd fs = addE e2 (bd ++ [n, m]) (addE e1 bd (addE e0 bd fs)) := by rw [addE, if_neg (by decide)]; simp [addL, boundB]
    have hin : encS (bd ++ [n, m]) = encS bd ++ [[.raw (.string n)], [.raw (.string m)]] := by simp [encS]
    simp only [go_sem, hA, avE, encE, encL, encE_eq, lentR, Int.reduceEq, mentL_rep, List.getD_cons_zero]
    refine goCallM 300 (args := [.tmp 60, .tmp 61]) (m := .tmp 62) hc0 rfl rfl rfl rfl rfl rfl (truesS_closed _) (by simp only [go_sem, avE_eq]) (by simp only [go_sem, hA]) ?_
    simp only [go_sem, hA, mentL_rep, List.getD_cons_zero, List.getD_cons_succ]
    refine goCallM 300 (args := [.tmp 67, .tmp 68]) (m := .tmp 69) hc1 rfl rfl rfl rfl rfl rfl (truesS_closed _) (by simp only [go_sem, avE_eq]) (by simp only [go_sem, hA]) ?_
    simp only [go_sem, hA, mentL_rep, mixed, List.getD_cons_zero, List.getD_cons_succ]
    refine goCallDT 300 cK rfl rfl rfl (by simp only [go_sem]) (by simp only [go_sem, hA]) (by simp only [go_sem, mentL_rep]) ?_
    simp only [go_sem, hA, mentL_rep]
    refine ⟨⟨encS_fit [n, m], encS_row _, by rw [encS_length]; omega⟩, goCallDM 300 (args := [.tmp 74, .tmp 82]) (m := .tmp 83) hc2 rfl rfl rfl rfl rfl rfl (truesS_closed _) (by simp only [go_sem, avE_eq, hin]) (by simp only [go_sem, hA]) ?_⟩
    simp only [go_sem, he, lentR, Tryz.results56, and_true]
    exact chk_last (fun r h q => by rw [← Option.some.inj h]; exact mentL_rep q _) (by kernel_rfl)
  have he : addE (.mk k n m i d s) bd fs = addL k n m 0 s bd fs := by rw [addE, if_neg h3]
  have g3 : decide (k = 3) = false := decide_eq_false h3
  have g6 : decide (k = 6) = false := decide_eq_false h6
  have g8 : decide (k = 8) = false := decide_eq_false h8
  have g13 : decide (k = 13) = false := decide_eq_false h13
  simp only [go_sem, hA, avE, encE, lentR, g3, g6, g8, g13, mentL_rep, encL_length]
  refine satC_loop [1, 2, 3, 86, 87, 88] [0, 7700077] [] (fun x σ => ∃ q : Nat, q ≤ s.length ∧ x = s.length - q ∧ σ = afSt k n m i d s bd fs b q) s.length ⟨0, by omega, by omega, by simp only [go_sem, afSt, lentR, List.take_zero, addL]⟩ ?_
  rintro x σ ⟨q, hq, rfl, rfl⟩
  refine goC 300 ?_
  by_cases hlt : q < s.length
  · have g1 : decide ((q : Int) < (s.length : Int)) = true := decide_eq_true (by omega)
    have hn1 := nodesL_get s q hlt
    have hbd : boundB k n m q bd = bd := by simp [boundB, h6, h8, h13]
    have hc := ih s[q] bd (addL k n m 0 (s.take q) bd fs) (by omega) (by omega) (shpL_get q hlt hsL)
    have hts := addL_take_succ k n m s bd fs q hlt
    rw [hbd] at hts
    rw [← hts] at hc
    simp only [go_sem, hA, afSt, lentR, g1, Int.toNat_natCast, encL_length, encL_at s q hlt, mentL_rep]
    refine ⟨⟨by omega, by omega⟩, goCallM 300 (args := [.tmp 92, .tmp 93]) (m := .tmp 94) hc rfl rfl rfl rfl rfl rfl (truesS_closed _) (by simp only [go_sem, avE_eq]) (by simp only [go_sem, hA]) ?_⟩
    simp only [go_sem, hA]
    exact ⟨by unfold inI64; omega, s.length - (q + 1), by omega, q + 1, by omega, rfl, rfl⟩
  · have g1 : decide ((q : Int) < (s.length : Int)) = false := decide_eq_false (by omega)
    obtain rfl : q = s.length := by omega
    simp only [go_sem, hA, afSt, lentR, g1, he, List.take_length, Tryz.results56]
theorem addFree_c (N : Nat) : ∀ (t : Ex) (bd fs : List ByteArray), nodesE t < N → 2 * nodesE t + bd.length ≤ 1048576 → shpE t = true → ConM Tryz.prog 56 [avE t, .d (.sl (encS bd))] (keysS fs) (truesS fs) (keysS (addE t bd fs)) (truesS (addE t bd fs)) (.tup []) := by
  induction N with
  | zero => intro t bd fs h; omega
  | succ N ih => intro t bd fs h hb hs; cases t; exact addFree_step N ih _ _ _ _ _ _ bd fs h hb hs
end Go.Proofs.YtnphcjpccieljaaGreatDoor

namespace Go.Proofs.YtnphcjpccieljaaGreatDoor
open Go Go.RowKit
set_option maxRecDepth 100000 in
set_option maxHeartbeats 4000000 in
theorem between_c (l : List ByteArray) : Con Tryz.prog 93 [.d (.sl (encS l))] (.fn 132 [.at_ [.sl (encS l)]]) := by
  refine con_ofF [0] Tryz.func93 rfl (by decide +kernel) rfl rfl (by simp [Tryz.ntmps93]) fun A hA => ?_
  rw [Tryz.ntmps93] at hA
  refine goC 300 ?_
  simp only [go_sem, hA, Tryz.results93]
def fixA : List ByteArray := [bs [40], bs [32], bs [41]]
def fixB : List ByteArray := [bs [40, 105, 102, 32], bs [32, 116, 104, 101, 110, 32], bs [32, 101, 108, 115, 101, 32], bs [41]]
def fixC : List ByteArray := [bs [110, 105, 108]]
def fixD : List ByteArray := [bs [40], bs [32, 58, 58, 32], bs [41]]
def fixE : List ByteArray := [bs [40, 99, 111, 110, 102, 108, 105, 99, 116, 32], bs [32, 124, 124, 32], bs [32, 124, 124, 32], bs [41]]
def txKeys : List Value := [.int .i64 1, .int .i64 2, .int .i64 3, .int .i64 4, .int .i64 6, .int .i64 7, .int .i64 8, .int .i64 9, .int .i64 10, .int .i64 11, .int .i64 12, .int .i64 13, .int .i64 14, .int .i64 15]
def txVals : List AV := [.fn 88 [], .fn 89 [], .fn 90 [], .fn 91 [], .fn 92 [], .fn 132 [.at_ [.sl (encS fixA)]], .fn 94 [], .fn 132 [.at_ [.sl (encS fixB)]], .fn 95 [], .fn 132 [.at_ [.sl (encS fixC)]], .fn 132 [.at_ [.sl (encS fixD)]], .fn 96 [], .fn 97 [], .fn 132 [.at_ [.sl (encS fixE)]]]
set_option maxRecDepth 100000 in
set_option maxHeartbeats 8000000 in
theorem texts_c : Con Tryz.prog 60 [] (.mapd txKeys txVals) := by
  have cA := between_c fixA
  have cB := between_c fixB
  have cC := between_c fixC
  have cD := between_c fixD
  have cE := between_c fixE
  refine con_ofF [1000] Tryz.func60 rfl (by decide +kernel) rfl rfl (by simp [Tryz.ntmps60]) fun A hA => ?_
  rw [Tryz.ntmps60] at hA
  refine goC 300 ?_
  simp only [go_sem, hA, Int.reduceEq]
  refine goCall 300 cA rfl (by simp only [go_sem]; rfl) (by simp only [go_sem, hA]) ?_
  simp only [go_sem, hA, Int.reduceEq]
  refine goCall 300 cB rfl (by simp only [go_sem]; rfl) (by simp only [go_sem, hA]) ?_
  simp only [go_sem, hA, Int.reduceEq]
  refine goCall 300 cC rfl (by simp only [go_sem]; rfl) (by simp only [go_sem, hA]) ?_
  simp only [go_sem, hA, Int.reduceEq]
  refine goCall 300 cD rfl (by simp only [go_sem]; rfl) (by simp only [go_sem, hA]) ?_
  simp only [go_sem, hA, Int.reduceEq]
  refine goCall 300 cE rfl (by simp only [go_sem]; rfl) (by simp only [go_sem, hA]) ?_
  simp only [go_sem, hA, Int.reduceEq, Tryz.results60]
  rfl
end Go.Proofs.YtnphcjpccieljaaGreatDoor

namespace Go.Proofs.YtnphcjpccieljaaGreatDoor
open Go Go.RowKit
/-- a declaration -/
structure Dc where
  id : Int
  kind : Int
  pub : Bool
  names : List ByteArray
  doubt : Bool
  body : Ex
def encD (x : Dc) : List D := [.raw (.int .i64 x.id), .raw (.int .i64 x.kind), .raw (.bool x.pub), .sl (encS x.names), .raw (.bool x.doubt), .raw (.int .i64 x.body.kind), .raw (.string x.body.name), .raw (.string x.body.more), .raw (.int .i64 x.body.int), .raw (.int .i64 x.body.den), .sl (encL x.body.sub)]
def avD (x : Dc) : AV := .agg [.d (.raw (.int .i64 x.id)), .d (.raw (.int .i64 x.kind)), .d (.raw (.bool x.pub)), .d (.sl (encS x.names)), .d (.raw (.bool x.doubt)), .d (.raw (.int .i64 x.body.kind)), .d (.raw (.string x.body.name)), .d (.raw (.string x.body.more)), .d (.raw (.int .i64 x.body.int)), .d (.raw (.int .i64 x.body.den)), .d (.sl (encL x.body.sub))]
theorem con_s1 {P : Program} {f : FuncId} {s : ByteArray} {r : Value} (he : Enters P f) (h : ∀ (w : World), Calls P f #[.string s] w fun e w' => e = .returned r ∧ Below w.heap.size w w') : Con P f [.d (.raw (.string s))] (.d (.raw r)) := by
  refine ⟨he, rfl, fun F w vs hF _ hl hv => ?_⟩
  match vs, hl with
  | [v], _ =>
    have h0 := hv 0 (by simp) (by simp)
    simp only [List.getElem_cons_zero] at h0
    unfold HasC at h0
    rw [h0.raw_eq]
    exact (h w).mono fun e w' h' => ⟨r, h'.1, .d (.raw _), h'.2⟩
theorem rName_c (s : ByteArray) : Con Tryz.prog 21 [.d (.raw (.string s))] (.d (.raw (.bool (nameB s)))) := con_s1 ⟨_, Tryz.func21, by decide +kernel, rfl⟩ fun w => rName_any s w
def badName (l : List ByteArray) (s : ByteArray) : Bool := !nameB s && (decide (l.length = 1) || decide (¬ s = ⟨#[]⟩))
def checkDX (x : Dc) : Int :=
  if x.id < 0 ∨ 999999 < x.id then 2 else if x.kind < 1 ∨ 3 < x.kind then 9 else if ¬ x.names.length = 1 ∧ ¬ x.names.length = 3 then 1 else
  if x.names.any (badName x.names) then 6 else checkX x.body
abbrev cdSt (x : Dc) (q : Nat) : St := ⟨[(1, .box 0 0), (2, .d (.raw (.int .i64 0))), (3, .d (.raw (.int .i64 q)))], [(0, some (.cell 54 [.d (.raw (.int .i64 x.id)), .d (.raw (.int .i64 x.kind)), .d (.raw (.bool x.pub)), .d (.sl (encS x.names)), .d (.raw (.bool x.doubt)), .d (.raw (.int .i64 x.body.kind)), .d (.raw (.string x.body.name)), .d (.raw (.string x.body.more)), .d (.raw (.int .i64 x.body.int)), .d (.raw (.int .i64 x.body.den)), .d (.sl (encL x.body.sub))]))], []⟩
set_option maxRecDepth 100000 in
set_option maxHeartbeats 8000000 in
theorem rCheckDecl_c (x : Dc) (hb : nodesE x.body ≤ 524288) : Con Tryz.prog 47 [avD x] (.d (.raw (.int .i64 (checkDX x)))) := by
  have cc := rCheckExpr_c x.body (by omega)
  refine con_of Tryz.func47 rfl (by decide +kernel) rfl rfl (by simp [Tryz.ntmps47]) fun A hA => ?_
  rw [Tryz.ntmps47] at hA
  refine goC 400 ?_
  by_cases h1 : x.id < 0
  · have g1 : decide (x.id < 0) = true := decide_eq_true h1
    have he : checkDX x = 2 := by unfold checkDX; rw [if_pos (.inl h1)]
    simp only [go_sem, hA, avD, g1, he, Tryz.results47]
  have g1 : decide (x.id < 0) = false := decide_eq_false h1
  by_cases h2 : 999999 < x.id
  · have g2 : decide (999999 < x.id) = true := decide_eq_true h2
    have he : checkDX x = 2 := by unfold checkDX; rw [if_pos (.inr h2)]
    simp only [go_sem, hA, avD, g1, g2, he, Tryz.results47]
  have g2 : decide (999999 < x.id) = false := decide_eq_false h2
  by_cases h3 : x.kind < 1
  · have g3 : decide (x.kind < 1) = true := decide_eq_true h3
    have he : checkDX x = 9 := by unfold checkDX; rw [if_neg (by omega), if_pos (.inl h3)]
    simp only [go_sem, hA, avD, g1, g2, g3, he, Tryz.results47]
  have g3 : decide (x.kind < 1) = false := decide_eq_false h3
  by_cases h4 : 3 < x.kind
  · have g4 : decide (3 < x.kind) = true := decide_eq_true h4
    have he : checkDX x = 9 := by unfold checkDX; rw [if_neg (by omega), if_pos (.inr h4)]
    simp only [go_sem, hA, avD, g1, g2, g3, g4, he, Tryz.results47]
  have g4 : decide (3 < x.kind) = false := decide_eq_false h4
  by_cases h5 : ¬ x.names.length = 1 ∧ ¬ x.names.length = 3
  · have g5 : (decide ¬ (x.names.length : Int) = 1) = true := decide_eq_true (by omega)
    have g6 : (decide ¬ (x.names.length : Int) = 3) = true := decide_eq_true (by omega)
    have he : checkDX x = 1 := by unfold checkDX; rw [if_neg (by omega), if_neg (by omega), if_pos h5]
    simp only [go_sem, hA, avD, g1, g2, g3, g4, g5, g6, encS_length, he, Tryz.results47]
  have h6 : x.names.length = 1 ∨ (¬ x.names.length = 1 ∧ x.names.length = 3) := by omega
  have he : checkDX x = if x.names.any (badName x.names) then 6 else checkX x.body := by unfold checkDX; rw [if_neg (by omega), if_neg (by omega), if_neg h5]
  rcases h6 with h6 | ⟨h6, h7⟩
  case' inl =>
    have g5 : (decide ¬ (x.names.length : Int) = 1) = false := decide_eq_false (by omega)
    have g7 : decide ((x.names.length : Int) = 1) = true := decide_eq_true (by omega)
    simp only [go_sem, hA, avD, g1, g2, g3, g4, g5, encS_length]
  case' inr =>
    have g5 : (decide ¬ (x.names.length : Int) = 1) = true := decide_eq_true (by omega)
    have g6 : (decide ¬ (x.names.length : Int) = 3) = false := decide_eq_false (by omega)
    have g7 : decide ((x.names.length : Int) = 1) = false := decide_eq_false (by omega)
    simp only [go_sem, hA, avD, g1, g2, g3, g4, g5, g6, encS_length]
  all_goals
    refine satC_loop [1, 2, 3] [0] [] (fun y σ => ∃ q : Nat, q ≤ x.names.length ∧ y = x.names.length - q ∧ (x.names.take q).any (badName x.names) = false ∧ σ = cdSt x q) x.names.length ⟨0, by omega, by omega, rfl, by simp only [go_sem, cdSt]⟩ ?_
    rintro y σ ⟨q, hq, rfl, hf, rfl⟩
    refine goC 400 ?_
    by_cases hlt : q < x.names.length
    · have k1 : decide ((q : Int) < (x.names.length : Int)) = true := decide_eq_true (by omega)
      have hc := rName_c x.names[q]
      simp only [go_sem, hA, cdSt, encS_length, k1, Int.toNat_natCast, encS_at x.names q hlt]
      refine ⟨⟨by omega, by omega⟩, ?_⟩
      have hbad : badName x.names x.names[q] = true → checkDX x = 6 := fun h => by
        rw [he, if_pos]
        rw [List.any_eq_true]
        exact ⟨_, List.getElem_mem hlt, h⟩
      have hgood : badName x.names x.names[q] = false → (x.names.take (q + 1)).any (badName x.names) = false := fun h => by
        rw [List.take_succ_eq_append_getElem hlt, List.any_append, hf]
        simp [h]
      have g7' : decide (x.names.length = 1) = decide ((x.names.length : Int) = 1) := decide_eq_decide.2 (by omega)
      obtain ⟨one, g8⟩ : ∃ one, decide ((x.names.length : Int) = 1) = one := ⟨_, rfl⟩
      rw [g8] at g7'
      cases hn : nameB x.names[q] with
      | true =>
        rw [hn] at hc
        have hb := hgood (by unfold badName; rw [hn]; rfl)
        refine goCall 300 hc rfl (by simp only [go_sem]) (by simp only [go_sem, hA]) ?_
        simp only [go_sem, hA, undef]
        exact ⟨by unfold inI64; omega, x.names.length - (q + 1), by omega, q + 1, by omega, rfl, hb, rfl⟩
      | false =>
        rw [hn] at hc
        refine goCall 300 hc rfl (by simp only [go_sem]) (by simp only [go_sem, hA]) ?_
        cases one with
        | true =>
          have hb := hbad (by unfold badName; rw [hn, g7']; rfl)
          simp only [go_sem, hA, encS_length, g8, hb, Tryz.results47]
        | false =>
          by_cases hz : x.names[q] = ⟨#[]⟩
          · have hb := hgood (by unfold badName; rw [hn, g7', hz]; rfl)
            have k2 : decide (¬ x.names[q] = ⟨#[]⟩) = false := decide_eq_false (fun h => h hz)
            simp only [go_sem, hA, encS_length, g8, Int.toNat_natCast, encS_at x.names q hlt, k2]
            exact ⟨⟨by omega, by omega⟩, by unfold inI64; omega, x.names.length - (q + 1), by omega, q + 1, by omega, rfl, hb, rfl⟩
          · have hb := hbad (by unfold badName; rw [hn, g7']; simp [hz])
            have k2 : decide (¬ x.names[q] = ⟨#[]⟩) = true := decide_eq_true hz
            simp only [go_sem, hA, encS_length, g8, Int.toNat_natCast, encS_at x.names q hlt, k2, hb, Tryz.results47]
            exact ⟨by omega, by omega⟩
    · have k1 : decide ((q : Int) < (x.names.length : Int)) = false := decide_eq_false (by omega)
      obtain rfl : q = x.names.length := by omega
      rw [List.take_length] at hf
      rw [hf] at he
      simp only [go_sem, hA, cdSt, encS_length, k1]
      refine goCall 300 cc rfl (by simp only [go_sem, avE_eq]) (by simp only [go_sem, hA]) ?_
      simp only [go_sem, hA, he, Tryz.results47]
end Go.Proofs.YtnphcjpccieljaaGreatDoor
