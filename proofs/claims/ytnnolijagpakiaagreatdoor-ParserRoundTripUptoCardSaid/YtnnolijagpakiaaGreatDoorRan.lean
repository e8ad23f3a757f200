/- Texts of this proof, part 14: what the proof uses of them. -/
import Derived.Test.YtnnolijagpakiaaGreatDoorRam
import Derived.Test.YtnnolijagpakiaaGreatDoorRag
import Derived.Lib.Builder
import Derived.Lib.AppendStr
import Derived.Lib.UnsafeStr
import Derived.WalkKit
import Derived.Laws.Externs
import Derived.Lib.Hide
namespace Go.Proofs.YtnnolijagpakiaaGreatDoor
open Go Go.RowKit
theorem reads_strs {w : World} {F : Nat → Nat → Prop} {l : List ByteArray} {v : Value} (h : Reads w F (.sl (encS l)) v) :
  (l = [] ∧ ∃ p cap, v = .slice p 0 cap) ∨ (0 < l.length ∧ ∃ b off cap, v = .slice (some ⟨b, off, none⟩) l.length cap ∧ l.length ≤ cap ∧ F b (off + 0 * 1 + 0) ∧ ∀ j, j < l.length → w.cell? ⟨b, off + j, none⟩ = some (.string (l.getD j ByteArray.empty))) := by
 obtain ⟨p, cap, rfl, hcap⟩ := h.slice
 rw [encS_length] at hcap h ⊢
 by_cases hz : l.length = 0
 ·left
  have : l = [] := List.eq_nil_of_length_eq_zero hz
  subst this
  exact ⟨rfl, p, cap, rfl⟩
 ·right
  have hrow : ∀ i (hi : i < l.length), (encS l)[i]'(by rw [encS_length]; exact hi) = [.raw (.string l[i])] := fun i hi => by simp [encS]
  have h0 := h.row 0 (by rw [encS_length]; omega) (st := 1) (by rw [hrow 0 (by omega)]; rfl)
  obtain ⟨b, off, rfl, hc0⟩ := h0
  refine ⟨by omega, b, off, cap, rfl, hcap, (hc0 0 (by rw [hrow 0 (by omega)]; exact Nat.one_pos)).1, fun j hj => ?_⟩
  obtain ⟨b', off', he, hcj⟩ := h.row j (by rw [encS_length]; omega) (st := 1) (by rw [hrow j hj]; rfl)
  obtain ⟨_, u, hu, hr⟩ := hcj 0 (by rw [hrow j hj]; exact Nat.one_pos)
  have hbb : b' = b ∧ off' = off := by
   injection he with he
   injection he with he1 he2
   exact ⟨he1.symm, he2.symm⟩
  obtain ⟨rfl, rfl⟩ := hbb
  have e : ((encS l)[j]'(by rw [encS_length]; exact hj))[0]'(by rw [hrow j hj]; exact Nat.one_pos) = .raw (.string l[j]) := by simp only [hrow j hj, List.getElem_cons_zero]
  rw [e] at hr
  rw [hr.raw_eq, Nat.mul_one, Nat.add_zero] at hu
  rw [hu]
  simp [List.getD_eq_getElem?_getD, hj]
abbrev keysS (fs : List ByteArray) : List Value := fs.map Value.string
abbrev truesS (fs : List ByteArray) : List AV := List.replicate fs.length (.d (.raw (.bool true)))
theorem findIx_keys (s : ByteArray) : ∀ fs : List ByteArray, (findIx (.string s) (keysS fs)).isSome = hasS fs s
 | [] => rfl
 | f :: fs => by
  have ih := findIx_keys s fs
  simp only [keysS, List.map_cons, findIx, keyEq, hasS, List.any_cons]
  by_cases h : s = f
  ·subst h; simp
  ·have h' : ¬ f = s := fun e => h e.symm
   simp only [h, h', decide_false, Bool.false_eq_true, if_false, Option.isSome_map, Bool.false_or]
   exact ih
theorem findIx_lt (s : ByteArray) : ∀ (fs : List ByteArray) (i : Nat), findIx (.string s) (keysS fs) = some i → i < fs.length
 | [], i, h => by simp [keysS, findIx] at h
 | f :: fs, i, h => by
  simp only [keysS, List.map_cons, findIx] at h
  split at h
  ·cases h; simp
  ·cases hf : findIx (.string s) (keysS fs) with
   | none => rw [show List.map Value.string fs = keysS fs from rfl, hf] at h; cases h
   | some j =>
    rw [show List.map Value.string fs = keysS fs from rfl, hf] at h
    cases h
    have := findIx_lt s fs j hf
    simp; omega
theorem keysS_fit (fs : List ByteArray) : (keysS fs).all (keyFit .string) = true := by
 rw [List.all_eq_true]
 intro x hx
 obtain ⟨s, _, rfl⟩ := List.mem_map.1 hx
 rfl
theorem mentL_rep (r n : Nat) : mentL r (List.replicate n (AV.d (D.raw (Value.bool true)))) = false := by
 induction n with
 | zero => rfl
 | succ n ih => rw [List.replicate_succ, mentL, ih]; rfl
end Go.Proofs.YtnnolijagpakiaaGreatDoor
namespace Go.Proofs.YtnnolijagpakiaaGreatDoor
open Go Go.RowKit
theorem below_grow (w : World) (k : Nat) (os : Array Obj) : Below w.heap.size w (Go.Sort.grow (w.drewN k) os) := by
 refine ⟨rfl, rfl, rfl, by simp [Go.Sort.grow, World.drewN], fun i hi => ?_⟩
 show (w.heap ++ os)[i]? = _
 rw [Array.getElem?_append_left hi]
theorem itoa_c (n : Int) (hn : inI64 n) : Con Tryz.prog 91 [.d (.raw (.int .i64 n))] (.d (.raw (.string (itoaB n)))) := by
 refine ⟨⟨_, Tryz.func91, by decide +kernel, rfl⟩, rfl, fun F w vs hF hG hl hv => ?_⟩
 match vs, hl with
 | [v], _ =>
  have h0 := hv 0 (by simp) (by simp)
  simp only [List.getElem_cons_zero] at h0
  unfold HasC at h0
  rw [h0.raw_eq]
  unfold inI64 at hn
  refine (Tryz.strconv_Itoa n (by omega) (by omega) w (hG.tab 3 (by kernel_rfl))).mono ?_
  rintro e w' ⟨rfl, k, os, rfl⟩
  exact ⟨_, rfl, .d (.raw _), below_grow w k os⟩
set_option maxRecDepth 100000 in
set_option maxHeartbeats 8000000 in
theorem texts_1 (t : Ex) (L : List ByteArray) (ht : t.kind = 1) (hok : okN t.kind t.name t.more t.int t.den L.length = true) (_hL : sumB L ≤ 1099511627776) : Con Tryz.prog 90 [avE t, .d (.sl (encS L))] (.d (.raw (.string (nodeText t.kind t.name t.more t.int t.den L)))) := by
 obtain ⟨har, hn, hm, hi, hd, hk5⟩ := okN_iff hok
 have h3 := sumB_three L
 have zi := itoaB_size t.int (by unfold inI64; omega)
 have zd := itoaB_size t.den (by unfold inI64; omega)
 have ci := itoa_c t.int (by unfold inI64; omega)
 have cd := itoa_c t.den (by unfold inI64; omega)
 rw [ht] at har ⊢
 have hx : nodeText 1 t.name t.more t.int t.den L = _ := (rfl : nodeText 1 t.name t.more t.int t.den L = nodeText 1 t.name t.more t.int t.den L).trans (by unfold nodeText; simp only [Int.reduceEq, if_false, if_true]; rfl)
 refine con_of Tryz.func90 rfl (by decide +kernel) rfl (by simp only [AV.closed, closedL, avE, closedL_d, Bool.and_self]) (by simp [Tryz.ntmps90]) fun A hA => ?_
 rw [Tryz.ntmps90] at hA
 refine goC 300 ?_
 simp only [go_sem, hA, avE_eq]
 refine goCall 300 ci rfl (by simp only [go_sem]) (by simp only [go_sem, hA]) ?_
 simp only [go_sem, hA, hx, Tryz.results90]
set_option maxRecDepth 100000 in
set_option maxHeartbeats 8000000 in
theorem texts_2 (t : Ex) (L : List ByteArray) (ht : t.kind = 2) (hok : okN t.kind t.name t.more t.int t.den L.length = true) (_hL : sumB L ≤ 1099511627776) : Con Tryz.prog 92 [avE t, .d (.sl (encS L))] (.d (.raw (.string (nodeText t.kind t.name t.more t.int t.den L)))) := by
 obtain ⟨har, hn, hm, hi, hd, hk5⟩ := okN_iff hok
 have h3 := sumB_three L
 have zi := itoaB_size t.int (by unfold inI64; omega)
 have zd := itoaB_size t.den (by unfold inI64; omega)
 have ci := itoa_c t.int (by unfold inI64; omega)
 have cd := itoa_c t.den (by unfold inI64; omega)
 rw [ht] at har ⊢
 have hx : nodeText 2 t.name t.more t.int t.den L = _ := (rfl : nodeText 2 t.name t.more t.int t.den L = nodeText 2 t.name t.more t.int t.den L).trans (by unfold nodeText; simp only [Int.reduceEq, if_false, if_true]; rfl)
 refine con_of Tryz.func92 rfl (by decide +kernel) rfl (by simp only [AV.closed, closedL, avE, closedL_d, Bool.and_self]) (by simp [Tryz.ntmps92]) fun A hA => ?_
 rw [Tryz.ntmps92] at hA
 refine goC 300 ?_
 by_cases h1 : t.int = 1
 ·have g2 : decide (t.int = 1) = true := decide_eq_true h1
  rw [if_pos h1] at hx
  simp only [go_sem, hA, avE_eq, g2, hx, Tryz.results92]
 ·have g2 : decide (t.int = 1) = false := decide_eq_false h1
  rw [if_neg h1] at hx
  simp only [go_sem, hA, avE_eq, g2, hx, Tryz.results92]
set_option maxRecDepth 100000 in
set_option maxHeartbeats 8000000 in
theorem texts_3 (t : Ex) (L : List ByteArray) (ht : t.kind = 3) (hok : okN t.kind t.name t.more t.int t.den L.length = true) (_hL : sumB L ≤ 1099511627776) : Con Tryz.prog 93 [avE t, .d (.sl (encS L))] (.d (.raw (.string (nodeText t.kind t.name t.more t.int t.den L)))) := by
 obtain ⟨har, hn, hm, hi, hd, hk5⟩ := okN_iff hok
 have h3 := sumB_three L
 have zi := itoaB_size t.int (by unfold inI64; omega)
 have zd := itoaB_size t.den (by unfold inI64; omega)
 have ci := itoa_c t.int (by unfold inI64; omega)
 have cd := itoa_c t.den (by unfold inI64; omega)
 rw [ht] at har ⊢
 have hx : nodeText 3 t.name t.more t.int t.den L = _ := (rfl : nodeText 3 t.name t.more t.int t.den L = nodeText 3 t.name t.more t.int t.den L).trans (by unfold nodeText; simp only [Int.reduceEq, if_false, if_true]; rfl)
 refine con_of Tryz.func93 rfl (by decide +kernel) rfl (by simp only [AV.closed, closedL, avE, closedL_d, Bool.and_self]) (by simp [Tryz.ntmps93]) fun A hA => ?_
 rw [Tryz.ntmps93] at hA
 refine goC 300 ?_
 simp only [go_sem, hA, avE_eq, hx, Tryz.results93]
set_option maxRecDepth 100000 in
set_option maxHeartbeats 8000000 in
theorem texts_4 (t : Ex) (L : List ByteArray) (ht : t.kind = 4) (hok : okN t.kind t.name t.more t.int t.den L.length = true) (_hL : sumB L ≤ 1099511627776) : Con Tryz.prog 94 [avE t, .d (.sl (encS L))] (.d (.raw (.string (nodeText t.kind t.name t.more t.int t.den L)))) := by
 obtain ⟨har, hn, hm, hi, hd, hk5⟩ := okN_iff hok
 have h3 := sumB_three L
 have zi := itoaB_size t.int (by unfold inI64; omega)
 have zd := itoaB_size t.den (by unfold inI64; omega)
 have ci := itoa_c t.int (by unfold inI64; omega)
 have cd := itoa_c t.den (by unfold inI64; omega)
 rw [ht] at har ⊢
 have hx : nodeText 4 t.name t.more t.int t.den L = _ := (rfl : nodeText 4 t.name t.more t.int t.den L = nodeText 4 t.name t.more t.int t.den L).trans (by unfold nodeText; simp only [Int.reduceEq, if_false, if_true]; rfl)
 refine con_of Tryz.func94 rfl (by decide +kernel) rfl (by simp only [AV.closed, closedL, avE, closedL_d, Bool.and_self]) (by simp [Tryz.ntmps94]) fun A hA => ?_
 rw [Tryz.ntmps94] at hA
 refine goC 300 ?_
 simp only [go_sem, hA, avE_eq, hx, Tryz.results94]
 repeat' apply And.intro
 all_goals first | omega | (rw [encS_length]; omega) | kernel_rfl
set_option maxRecDepth 100000 in
set_option maxHeartbeats 8000000 in
theorem texts_6 (t : Ex) (L : List ByteArray) (ht : t.kind = 6) (hok : okN t.kind t.name t.more t.int t.den L.length = true) (hL : sumB L ≤ 1099511627776) : Con Tryz.prog 95 [avE t, .d (.sl (encS L))] (.d (.raw (.string (nodeText t.kind t.name t.more t.int t.den L)))) := by
 obtain ⟨har, hn, hm, hi, hd, hk5⟩ := okN_iff hok
 have h3 := sumB_three L
 have zi := itoaB_size t.int (by unfold inI64; omega)
 have zd := itoaB_size t.den (by unfold inI64; omega)
 have ci := itoa_c t.int (by unfold inI64; omega)
 have cd := itoa_c t.den (by unfold inI64; omega)
 rw [ht] at har ⊢
 have hx : nodeText 6 t.name t.more t.int t.den L = _ := (rfl : nodeText 6 t.name t.more t.int t.den L = nodeText 6 t.name t.more t.int t.den L).trans (by unfold nodeText; simp only [Int.reduceEq, if_false, if_true]; rfl)
 have ha : 1 ≤ L.length := har
 refine con_of Tryz.func95 rfl (by decide +kernel) rfl (by simp only [AV.closed, closedL, avE, closedL_d, Bool.and_self]) (by simp [Tryz.ntmps95]) fun A hA => ?_
 rw [Tryz.ntmps95] at hA
 refine goC 300 ?_
 simp only [go_sem, hA, avE_eq, mixed, encS_atB L 0 (by omega), hx, Tryz.results95]
 repeat' apply And.intro
 all_goals first | omega | (rw [encS_length]; omega) | kernel_rfl
set_option maxRecDepth 100000 in
set_option maxHeartbeats 8000000 in
theorem texts_8 (t : Ex) (L : List ByteArray) (ht : t.kind = 8) (hok : okN t.kind t.name t.more t.int t.den L.length = true) (hL : sumB L ≤ 1099511627776) : Con Tryz.prog 97 [avE t, .d (.sl (encS L))] (.d (.raw (.string (nodeText t.kind t.name t.more t.int t.den L)))) := by
 obtain ⟨har, hn, hm, hi, hd, hk5⟩ := okN_iff hok
 have h3 := sumB_three L
 have zi := itoaB_size t.int (by unfold inI64; omega)
 have zd := itoaB_size t.den (by unfold inI64; omega)
 have ci := itoa_c t.int (by unfold inI64; omega)
 have cd := itoa_c t.den (by unfold inI64; omega)
 rw [ht] at har ⊢
 have hx : nodeText 8 t.name t.more t.int t.den L = _ := (rfl : nodeText 8 t.name t.more t.int t.den L = nodeText 8 t.name t.more t.int t.den L).trans (by unfold nodeText; simp only [Int.reduceEq, if_false, if_true]; rfl)
 have ha : 2 ≤ L.length := har
 refine con_of Tryz.func97 rfl (by decide +kernel) rfl (by simp only [AV.closed, closedL, avE, closedL_d, Bool.and_self]) (by simp [Tryz.ntmps97]) fun A hA => ?_
 rw [Tryz.ntmps97] at hA
 refine goC 300 ?_
 simp only [go_sem, hA, avE_eq, mixed, encS_atB L 0 (by omega), encS_atB L 1 (by omega), hx, Tryz.results97]
 repeat' apply And.intro
 all_goals first | omega | (rw [encS_length]; omega) | kernel_rfl
set_option maxRecDepth 100000 in
set_option maxHeartbeats 8000000 in
theorem texts_10 (t : Ex) (L : List ByteArray) (ht : t.kind = 10) (hok : okN t.kind t.name t.more t.int t.den L.length = true) (hL : sumB L ≤ 1099511627776) : Con Tryz.prog 98 [avE t, .d (.sl (encS L))] (.d (.raw (.string (nodeText t.kind t.name t.more t.int t.den L)))) := by
 obtain ⟨har, hn, hm, hi, hd, hk5⟩ := okN_iff hok
 have h3 := sumB_three L
 have zi := itoaB_size t.int (by unfold inI64; omega)
 have zd := itoaB_size t.den (by unfold inI64; omega)
 have ci := itoa_c t.int (by unfold inI64; omega)
 have cd := itoa_c t.den (by unfold inI64; omega)
 rw [ht] at har ⊢
 have hx : nodeText 10 t.name t.more t.int t.den L = _ := (rfl : nodeText 10 t.name t.more t.int t.den L = nodeText 10 t.name t.more t.int t.den L).trans (by unfold nodeText; simp only [Int.reduceEq, if_false, if_true]; rfl)
 have ha : 2 ≤ L.length := har
 refine con_of Tryz.func98 rfl (by decide +kernel) rfl (by simp only [AV.closed, closedL, avE, closedL_d, Bool.and_self]) (by simp [Tryz.ntmps98]) fun A hA => ?_
 rw [Tryz.ntmps98] at hA
 refine goC 300 ?_
 simp only [go_sem, hA, avE_eq, mixed, encS_atB L 0 (by omega), encS_atB L 1 (by omega), hx, Tryz.results98]
 repeat' apply And.intro
 all_goals first | omega | (rw [encS_length]; omega) | kernel_rfl
set_option maxRecDepth 100000 in
set_option maxHeartbeats 8000000 in
theorem texts_13 (t : Ex) (L : List ByteArray) (ht : t.kind = 13) (hok : okN t.kind t.name t.more t.int t.den L.length = true) (hL : sumB L ≤ 1099511627776) : Con Tryz.prog 99 [avE t, .d (.sl (encS L))] (.d (.raw (.string (nodeText t.kind t.name t.more t.int t.den L)))) := by
 obtain ⟨har, hn, hm, hi, hd, hk5⟩ := okN_iff hok
 have h3 := sumB_three L
 have zi := itoaB_size t.int (by unfold inI64; omega)
 have zd := itoaB_size t.den (by unfold inI64; omega)
 have ci := itoa_c t.int (by unfold inI64; omega)
 have cd := itoa_c t.den (by unfold inI64; omega)
 rw [ht] at har ⊢
 have hx : nodeText 13 t.name t.more t.int t.den L = _ := (rfl : nodeText 13 t.name t.more t.int t.den L = nodeText 13 t.name t.more t.int t.den L).trans (by unfold nodeText; simp only [Int.reduceEq, if_false, if_true]; rfl)
 have ha : 3 ≤ L.length := har
 refine con_of Tryz.func99 rfl (by decide +kernel) rfl (by simp only [AV.closed, closedL, avE, closedL_d, Bool.and_self]) (by simp [Tryz.ntmps99]) fun A hA => ?_
 rw [Tryz.ntmps99] at hA
 refine goC 300 ?_
 simp only [go_sem, hA, avE_eq, mixed, encS_atB L 0 (by omega), encS_atB L 1 (by omega), encS_atB L 2 (by omega), hx, Tryz.results99]
 repeat' apply And.intro
 all_goals first | omega | (rw [encS_length]; omega) | kernel_rfl
set_option maxRecDepth 100000 in
set_option maxHeartbeats 8000000 in
theorem texts_14 (t : Ex) (L : List ByteArray) (ht : t.kind = 14) (hok : okN t.kind t.name t.more t.int t.den L.length = true) (_hL : sumB L ≤ 1099511627776) : Con Tryz.prog 100 [avE t, .d (.sl (encS L))] (.d (.raw (.string (nodeText t.kind t.name t.more t.int t.den L)))) := by
 obtain ⟨har, hn, hm, hi, hd, hk5⟩ := okN_iff hok
 have h3 := sumB_three L
 have zi := itoaB_size t.int (by unfold inI64; omega)
 have zd := itoaB_size t.den (by unfold inI64; omega)
 have ci := itoa_c t.int (by unfold inI64; omega)
 have cd := itoa_c t.den (by unfold inI64; omega)
 rw [ht] at har ⊢
 have hx : nodeText 14 t.name t.more t.int t.den L = _ := (rfl : nodeText 14 t.name t.more t.int t.den L = nodeText 14 t.name t.more t.int t.den L).trans (by unfold nodeText; simp only [Int.reduceEq, if_false, if_true]; rfl)
 refine con_of Tryz.func100 rfl (by decide +kernel) rfl (by simp only [AV.closed, closedL, avE, closedL_d, Bool.and_self]) (by simp [Tryz.ntmps100]) fun A hA => ?_
 rw [Tryz.ntmps100] at hA
 refine goC 300 ?_
 simp only [go_sem, hA, avE_eq, mixed]
 refine goCallD 300 ci rfl (by simp only [go_sem]) (by simp only [go_sem, hA]) ?_
 simp only [go_sem, hA]
 repeat' apply And.intro
 all_goals first | omega | skip
 refine goCallD 300 cd rfl (by simp only [go_sem]) (by simp only [go_sem, hA]) ?_
 simp only [go_sem, hA, hx, Tryz.results100]
 repeat' apply And.intro
 all_goals first | omega | kernel_rfl
end Go.Proofs.YtnnolijagpakiaaGreatDoor
namespace Go.Proofs.YtnnolijagpakiaaGreatDoor
open Go Go.RowKit
set_option maxRecDepth 100000 in
set_option maxHeartbeats 4000000 in
theorem between_c (l : List ByteArray) : Con Tryz.prog 96 [.d (.sl (encS l))] (.fn 153 [.at_ [.sl (encS l)]]) := by
 refine con_ofF [0] Tryz.func96 rfl (by decide +kernel) rfl rfl (by simp [Tryz.ntmps96]) fun A hA => ?_
 rw [Tryz.ntmps96] at hA
 refine goC 300 ?_
 simp only [go_sem, hA, Tryz.results96]
def fixA : List ByteArray := [bs [40], bs [32], bs [41]]
def fixB : List ByteArray := [bs [40, 105, 102, 32], bs [32, 116, 104, 101, 110, 32], bs [32, 101, 108, 115, 101, 32], bs [41]]
def fixC : List ByteArray := [bs [110, 105, 108]]
def fixD : List ByteArray := [bs [40], bs [32, 58, 58, 32], bs [41]]
def fixE : List ByteArray := [bs [40, 99, 111, 110, 102, 108, 105, 99, 116, 32], bs [32, 124, 124, 32], bs [32, 124, 124, 32], bs [41]]
def txKeys : List Value := [.int .i64 1, .int .i64 2, .int .i64 3, .int .i64 4, .int .i64 6, .int .i64 7, .int .i64 8, .int .i64 9, .int .i64 10, .int .i64 11, .int .i64 12, .int .i64 13, .int .i64 14, .int .i64 15]
def txVals : List AV := [.fn 90 [], .fn 92 [], .fn 93 [], .fn 94 [], .fn 95 [], .fn 153 [.at_ [.sl (encS fixA)]], .fn 97 [], .fn 153 [.at_ [.sl (encS fixB)]], .fn 98 [], .fn 153 [.at_ [.sl (encS fixC)]], .fn 153 [.at_ [.sl (encS fixD)]], .fn 99 [], .fn 100 [], .fn 153 [.at_ [.sl (encS fixE)]]]
set_option maxRecDepth 100000 in
set_option maxHeartbeats 8000000 in
theorem texts_c : Con Tryz.prog 48 [] (.mapd txKeys txVals) := by
 have cA := between_c fixA
 have cB := between_c fixB
 have cC := between_c fixC
 have cD := between_c fixD
 have cE := between_c fixE
 refine con_ofF [1000] Tryz.func48 rfl (by decide +kernel) rfl rfl (by simp [Tryz.ntmps48]) fun A hA => ?_
 rw [Tryz.ntmps48] at hA
 refine goC 300 ?_
 simp only [go_sem, hA, Int.reduceEq]
 refine goCall 300 cA rfl (by simp only [go_sem]; rfl) (by simp only [go_sem, hA]) ?_
 simp only [go_sem, hA, Int.reduceEq]
 refine goCall 300 cB rfl (by simp only [go_sem]; rfl) (by simp only [go_sem, hA]) ?_
 simp only [go_sem, hA, Int.reduceEq]
 refine goCall 300 cC rfl (by simp only [go_sem]; rfl) (by simp only [go_sem, hA]) ?_
 simp only [go_sem, hA, Int.reduceEq]
 refine goCall 300 cD rfl (by simp only [go_sem]; rfl) (by simp only [go_sem, hA]) ?_
 simp only [go_sem, hA, Int.reduceEq]
 refine goCall 300 cE rfl (by simp only [go_sem]; rfl) (by simp only [go_sem, hA]) ?_
 simp only [go_sem, hA, Int.reduceEq, Tryz.results48]
 rfl
end Go.Proofs.YtnnolijagpakiaaGreatDoor
namespace Go.Proofs.YtnnolijagpakiaaGreatDoor
open Go Go.RowKit
structure Dc where
 id : Int
 kind : Int
 pub : Bool
 names : List ByteArray
 doubt : Bool
 body : Ex
def encD (x : Dc) : List D := [.raw (.int .i64 x.id), .raw (.int .i64 x.kind), .raw (.bool x.pub), .sl (encS x.names), .raw (.bool x.doubt), .raw (.int .i64 x.body.kind), .raw (.string x.body.name), .raw (.string x.body.more), .raw (.int .i64 x.body.int), .raw (.int .i64 x.body.den), .sl (encL x.body.sub)]
def avD (x : Dc) : AV := .agg [.d (.raw (.int .i64 x.id)), .d (.raw (.int .i64 x.kind)), .d (.raw (.bool x.pub)), .d (.sl (encS x.names)), .d (.raw (.bool x.doubt)), .d (.raw (.int .i64 x.body.kind)), .d (.raw (.string x.body.name)), .d (.raw (.string x.body.more)), .d (.raw (.int .i64 x.body.int)), .d (.raw (.int .i64 x.body.den)), .d (.sl (encL x.body.sub))]
theorem con_s1 {P : Program} {f : FuncId} {s : ByteArray} {r : Value} (he : Enters P f) (h : ∀ (w : World), Calls P f #[.string s] w fun e w' => e = .returned r ∧ Below w.heap.size w w') : Con P f [.d (.raw (.string s))] (.d (.raw r)) := by
 refine ⟨he, rfl, fun F w vs hF _ hl hv => ?_⟩
 match vs, hl with
 | [v], _ =>
  have h0 := hv 0 (by simp) (by simp)
  simp only [List.getElem_cons_zero] at h0
  unfold HasC at h0
  rw [h0.raw_eq]
  exact (h w).mono fun e w' h' => ⟨r, h'.1, .d (.raw _), h'.2⟩
def badName (l : List ByteArray) (s : ByteArray) : Bool := !nameB s && (decide (l.length = 1) || decide (¬ s = ⟨#[]⟩))
end Go.Proofs.YtnnolijagpakiaaGreatDoor
namespace Go.Proofs.YtnnolijagpakiaaGreatDoor
open Go Go.RowKit
theorem sizeBuilder : (Tryz.prog.info? 91).map (·.size) = some 2 := by kernel_rfl
theorem liesBuilder : liesAt Tryz.prog Tryz.prog.depth 91 (2 / Tryz.prog.cellsOf 91) 0 91 1 = true := by kernel_rfl
theorem infoByte : (Tryz.prog.info? 5).map (fun i => (i.zero, i.size, i.bytes)) = some (some (.int .u8 0), 1, 1) := by kernel_rfl
set_option maxHeartbeats 1000000 in
set_option maxRecDepth 100000 in
theorem copyCheck_used (b : Nat) (w : World) (h0 : w.cell? ⟨b, 0, none⟩ = some (.pointer (some ⟨b, 0, none⟩))) :
  Calls Tryz.prog 109 #[.pointer (some ⟨b, 0, none⟩)] w fun e w' => e = .returned (.tuple #[]) ∧ w' = w := by
 obtain ⟨j, hj, _⟩ := Option.map_eq_some_iff.1 sizeBuilder
 go_enter Tryz.func109, Tryz.ntmps109
 go_wp2
 rw [Lib.run_neq_ptr_same w _ Tryz.underlying89 hj]
 go_wp2
 go_end0
 exact ⟨rfl, rfl⟩
set_option maxHeartbeats 1000000 in
set_option maxRecDepth 100000 in
theorem copyCheck_fresh (b : Nat) (w : World) (h0 : w.cell? ⟨b, 0, none⟩ = some (.pointer none)) (hsh : w.shape? b = some (91, 2)) (hfz : w.frozen? ⟨b, 0, none⟩ = false) :
  Calls Tryz.prog 109 #[.pointer (some ⟨b, 0, none⟩)] w fun e w' => e = .returned (.tuple #[]) ∧ w' = w.setCell ⟨b, 0, none⟩ (.pointer (some ⟨b, 0, none⟩)) := by
 obtain ⟨j, hj, hjs⟩ := Option.map_eq_some_iff.1 sizeBuilder
 go_enter Tryz.func109, Tryz.ntmps109
 go_wp2
 rw [Lib.run_to_unsafe w ⟨b, 0, none⟩ Tryz.underlying89 Tryz.underlying175 hj (by rw [hjs]; decide) hsh (Nat.zero_lt_succ 1)]
 simp only [Result.andThen]
 rw [Oper.upon_value]
 go_wp2
 rw [run_callFunc_extern Tryz.func158 (by kernel_rfl) (by kernel_rfl) (by kernel_rfl) (e := Extern.AbiNoEscape.same) (by kernel_rfl)]
 rw [Lib.run_noEscape]
 simp only [Result.andThen]
 rw [Oper.upon_value]
 go_wp2
 rw [Lib.run_from_unsafe w ⟨b, 0, none⟩ Tryz.underlying175 Tryz.underlying89 hj hsh liesBuilder]
 simp only [Result.andThen]
 rw [Oper.upon_value]
 go_wp2
 go_end0
 exact ⟨rfl, rfl⟩
def AtS (w w' : World) (v v' : Value) (s : ByteArray) : Prop := (v'.ownBlock = v.ownBlock ∨ (v'.ownBlock = some w.heap.size ∧ ∀ q, q < w.heap.size → w'.heap[q]? = w.heap[q]?)) ∧ (s.size = 0 → v' = v)
section
variable {P : Program}
theorem append_str_at (w : World) (base : Nat) (t u ty e : TypeId) (i : TypeInfo) (ht : P.underlying t = some (.slice e)) (hu : P.underlying u = some .string) (hi : P.info? e = some i) (hz : i.zero = some (.int .u8 0))
  (hsize : i.size = 1) (hby : i.bytes = 1) (v : Value) (n : Nat) (xs : List Value) (hown : w.ownsRow base e 1 v n xs) (s : ByteArray) (hbytes : n + s.size ≤ 140737488355328) (hbase : base ≤ w.heap.size) :
  ∃ v' w', (Builtin.append_ #[t, u] ty #[v, .string s]).run P w = .ok v' w' ∧ w'.ownsRow base e 1 v' (n + s.size) (xs ++ Lib.strCells s) ∧ w.grownBy w' v.ownBlock ∧
   AtS w w' v v' s := by
 have h63 : n + s.size ≤ maxLen := by unfold maxLen; omega
 obtain ⟨v', w', hr, h2, h3, h4⟩ := Lib.run_append_own_string (P := P) w base t u ty e i ht hu hi hz hsize hby v n xs hown s h63 hbytes hbase
 refine ⟨v', w', hr, h2, h3, ?_⟩
 have hxl : xs.length = n := by simpa using hown.1
 rcases hown.2 with ⟨rfl, rfl⟩ | ⟨g, cap, cur, rfl, hbg, hg, hnc, hcm, hcs, htake⟩
 ·by_cases hm : s.size = 0
  ·have : v' = .slice none 0 0 := h4.2 ⟨rfl, hm⟩
   subst this
   exact ⟨.inl rfl, fun _ => rfl⟩
  ·have hr2 := run_append_nil_string (P := P) w t u ty e i (.int .u8 0) ht hu hi hz s (by omega) (by omega) (by rw [hby]; omega)
   rw [hr] at hr2
   injection hr2 with hv2 hw2
   subst hv2 hw2
   exact ⟨.inr ⟨rfl, fun q hq => Below.heap_alloc w.drew _ q hq⟩, fun h => absurd h hm⟩
 ·by_cases hroom : n + s.size ≤ cap
  ·have hr2 := Lib.run_append_room_string (P := P) w t u ty e i ht hu hi hsize g n cap cur hg s hroom (by simp only [Nat.mul_one] at hcs; omega)
   rw [hr] at hr2
   injection hr2 with hv2 hw2
   subst hv2
   exact ⟨.inl rfl, fun h => by rw [h, Nat.add_zero]⟩
  ·have holds : ∀ j u, xs[j]? = some u → w.cell? ((⟨g, 0, none⟩ : Addr).add j) = some u := hown.cells (g := g) rfl
   have hr2 := Lib.run_append_grow_string (P := P) w t u ty e i (.int .u8 0) ht hu hi hz ⟨g, 0, none⟩ n cap xs (by rw [hsize]; omega) holds s (by omega) (by omega) (by rw [hby]; exact growslice_fits (by omega) (by omega))
   rw [hr] at hr2
   injection hr2 with hv2 hw2
   subst hv2 hw2
   exact ⟨.inr ⟨rfl, fun q hq => Below.heap_alloc w.drew _ q hq⟩, fun h => absurd h (by omega)⟩
theorem wpList_append_str_at {w : World} {ops : Array Oper} {rest : List Oper} {o : Oper} {a : Act} {Q : Exit → Act → World → Prop} (hgd : o.guard = none) (sl x : Operand) (t u : TypeId)
  (ho : o.op = .call { callee := .builtin .append, args := #[sl, x], argTypes := #[t, u] })
  (base : Nat) (e : TypeId) (i : TypeInfo) (ht : P.underlying t = some (.slice e)) (hu : P.underlying u = some .string) (hi : P.info? e = some i) (hz : i.zero = some (.int .u8 0))
  (hsize : i.size = 1) (hby : i.bytes = 1) (v : Value) (n : Nat) (xs : List Value) (hs : a.eval sl = v) (hown : w.ownsRow base e 1 v n xs) (s : ByteArray) (hx : a.eval x = .string s)
  (hbytes : n + s.size ≤ 140737488355328) (hbase : base ≤ w.heap.size)
  (h : ∀ v' w', w'.ownsRow base e 1 v' (n + s.size) (xs ++ Lib.strCells s) → w.grownBy w' v.ownBlock →
   AtS w w' v v' s → wpList P ops Q rest (a.put o.dst v') w') : wpList P ops Q (o :: rest) a w := by
 refine wpList_plain hgd fun K hK => ?_
 obtain ⟨v', w', hr, h2, h3, h4⟩ := append_str_at (P := P) w base t u o.type e i ht hu hi hz hsize hby v n xs hown s hbytes hbase
 unfold Oper.wp execOp
 simp only [ho, resolve, invoke, builtin, Sem.run_bind, Sem.run_pure, Result.andThen_ok, List.map_toArray, List.map_cons, List.map_nil, hs, hx, hr]
 exact hK _ _ (h v' w' h2 h3 h4)
end
def Wrote (B b n : Nat) (v : Value) (xs : List Value) (s : ByteArray) (w w' : World) : Prop :=
 ∃ w1 v' w2, (w1 = w ∨ w1 = w.setCell ⟨b, 0, none⟩ (.pointer (some ⟨b, 0, none⟩))) ∧ w1.heap[b]? = some (.cells #[.pointer (some ⟨b, 0, none⟩), v] 91 (0, 0)) ∧ w2.ownsRow B 5 1 v' (n + s.size) (xs ++ Lib.strCells s) ∧ w1.grownBy w2 v.ownBlock ∧
  AtS w1 w2 v v' s ∧ w' = w2.setCell ⟨b, 1, none⟩ v'
set_option maxHeartbeats 4000000 in
set_option maxRecDepth 100000 in
theorem writeString_raw (B b n : Nat) (c0 v : Value) (xs : List Value) (s : ByteArray) (w : World) (_hB : B ≤ b) (hbk0 : w.heap[b]? = some (.cells #[c0, v] 91 (0, 0))) (h0 : c0 = .pointer none ∨ c0 = .pointer (some ⟨b, 0, none⟩)) (hown0 : w.ownsRow B 5 1 v n xs) (hne : v.ownBlock ≠ some b) (hlen : n + s.size ≤ 140737488355328) (hBw : B ≤ w.heap.size) :
  Calls Tryz.prog 53 #[.pointer (some ⟨b, 0, none⟩), .string s] w fun e w' => e = .returned (.tuple #[.int .i64 s.size, .nilIface]) ∧ Wrote B b n v xs s w w' := by
 obtain ⟨i0, hi, hz0, hz1, hz2⟩ := info_parts infoByte
 have hcc : Calls Tryz.prog 109 #[.pointer (some ⟨b, 0, none⟩)] w fun e w1 => e = .returned (.tuple #[]) ∧ (w1 = w ∨ w1 = w.setCell ⟨b, 0, none⟩ (.pointer (some ⟨b, 0, none⟩))) ∧ w1.heap[b]? = some (.cells #[.pointer (some ⟨b, 0, none⟩), v] 91 (0, 0)) ∧ w1.ownsRow B 5 1 v n xs ∧ w1.heap.size = w.heap.size := by
  rcases h0 with rfl | rfl
  ·refine (copyCheck_fresh b w (by rw [Lib.cell_of_heap hbk0]; rfl) (by simp [World.shape?, hbk0]) (Lib.frozen_of_heap hbk0 0)).mono ?_
   rintro e w' ⟨rfl, rfl⟩
   refine ⟨rfl, .inr rfl, by simp [World.setCell, Array.getElem?_modify, hbk0], ownsRow_block hown0 fun x hx => Below.heap_setCell _ _ _ _ (fun e => hne (by rw [hx]; exact congrArg some e)), by simp [World.setCell]⟩
  ·refine (copyCheck_used b w (by rw [Lib.cell_of_heap hbk0]; rfl)).mono ?_
   rintro e w' ⟨rfl, rfl⟩
   exact ⟨rfl, .inl rfl, hbk0, hown0, rfl⟩
 go_enter Tryz.func53, Tryz.ntmps53
 go_wp2_with (go_at_call 109; refine hcc.mono ?_)
 rintro e w1 ⟨rfl, hw1, hbk, hown, hs1⟩
 have c0 : w1.cell? ⟨b, 0, none⟩ = some (.pointer (some ⟨b, 0, none⟩)) := by rw [Lib.cell_of_heap hbk]; rfl
 have c1 : w1.cell? ⟨b, 1, none⟩ = some v := by rw [Lib.cell_of_heap hbk]; rfl
 have HW1 := Lib.hid hw1
 clear hw1 hcc
 go_wp2_with (at_builtin; refine wpList_append_str_at rfl _ _ 51 9 rfl B 5 i0 Tryz.underlying51 Tryz.underlying9 hi hz0 hz1 hz2 _ _ _ rfl hown s rfl ?c4 ?c5 ?_)
 case c4 => omega
 case c5 => omega
 intro v' w2 hown' hgrow hat
 have hlt : b < w1.heap.size := (Array.getElem?_eq_some_iff.1 hbk).1
 have hb2 : w2.heap[b]? = some (.cells #[.pointer (some ⟨b, 0, none⟩), v] 91 (0, 0)) := by
  rw [hgrow.block b hlt (fun e => hne e.symm)]
  exact hbk
 have d0 : w2.cell? ⟨b, 0, none⟩ = some (.pointer (some ⟨b, 0, none⟩)) := by rw [Lib.cell_of_heap hb2]; rfl
 have d1 : w2.cell? ⟨b, 1, none⟩ = some v := by rw [Lib.cell_of_heap hb2]; rfl
 have f1 : w2.frozen? ⟨b, 1, none⟩ = false := Lib.frozen_of_heap hb2 1
 obtain ⟨ao, n', cap, rfl⟩ : ∃ ao n' cap, v' = .slice ao n' cap := by
  rcases hown'.2 with ⟨hv, _⟩ | ⟨g, cap, cur, hv, _⟩
  ·exact ⟨_, _, _, hv⟩
  ·exact ⟨_, _, _, hv⟩
 have HW := Lib.hid hown'
 have HG := Lib.hid hgrow
 have HB1 := Lib.hid hbk
 have HA := Lib.hid hat
 clear hown' hgrow hb2 hbk hat
 go_wp2
 go_ret2
 exact ⟨rfl, w1, _, w2, HW1.out, HB1.out, HW.out, HG.out, HA.out, rfl⟩
end Go.Proofs.YtnnolijagpakiaaGreatDoor
namespace Go.Proofs.YtnnolijagpakiaaGreatDoor
open Go Go.RowKit
def bytesR (l : List UInt8) : List (List D) := l.map fun c => [.raw (.int .u8 c.toNat)]
theorem bytesR_length (l : List UInt8) : (bytesR l).length = l.length := by simp [bytesR]
theorem bytesR_get (l : List UInt8) (i : Nat) (h : i < l.length) (h' : i < (bytesR l).length) : (bytesR l)[i] = [.raw (.int .u8 l[i].toNat)] := by simp [bytesR]
theorem reads_bytes {w : World} {base : Nat} {v : Value} {l : List UInt8} {F : Nat → Nat → Prop} (hown : w.ownsRow base 5 1 v l.length (Lib.byteCells l)) (hF : ∀ b o, v.ownBlock = some b → o < l.length → F b o) : Reads w F (.sl (bytesR l)) v := by
 rcases hown.2 with ⟨rfl, h0⟩ | ⟨gb, cap, cur, hv, _, _, hcap, _⟩
 ·have : l = [] := List.eq_nil_of_length_eq_zero h0
  subst this
  exact .nil _ _
 ·have hc := hown.cells (g := gb) (by rw [hv]; rfl)
  rw [hv, ← bytesR_length l]
  refine Reads.mk (st := 1) (by rw [bytesR_length]; exact hcap) (fun i hi => by rw [bytesR_get l i (by rw [bytesR_length] at hi; exact hi)]; rfl) fun i hi j hj => ?_
  have hil : i < l.length := by rw [bytesR_length] at hi; exact hi
  have hj0 : j = 0 := by rw [bytesR_get l i hil] at hj; simpa using hj
  subst hj0
  have h1 := hc i (Value.int .u8 l[i].toNat) (by simp [Lib.byteCells, hil])
  rw [Addr.add_lit] at h1
  refine ⟨hF _ _ (by rw [hv]; rfl) (by omega), _, by simpa using h1, ?_⟩
  simp only [bytesR_get l i hil, List.getElem_cons_zero]
  exact .raw _
theorem bytes_of_reads {w : World} {base : Nat} {v : Value} {l : List UInt8} {F : Nat → Nat → Prop} {xs : List Value} (hown : w.ownsRow base 5 1 v l.length xs) (h : Reads w F (.sl (bytesR l)) v) : xs = Lib.byteCells l := by
 have hxl : xs.length = l.length := by simpa using hown.1
 refine List.ext_getElem (by rw [Lib.byteCells_length]; exact hxl) fun i hi hi' => ?_
 have hil : i < l.length := by omega
 rcases hown.2 with ⟨_, h0⟩ | ⟨gb, cap, cur, hv, _⟩
 ·omega
 ·have hc := hown.cells (g := gb) (by rw [hv]; rfl) i xs[i] (List.getElem?_eq_getElem hi)
  rw [Addr.add_lit] at hc
  rw [hv] at h
  obtain ⟨b1, off1, he, hr⟩ := h.row i (by rw [bytesR_length]; exact hil) (st := 1) (by rw [bytesR_get l i hil]; rfl)
  injection he with he
  have e1 : gb = b1 := congrArg Addr.block he
  have e2 : 0 = off1 := congrArg Addr.off he
  subst e1 e2
  obtain ⟨_, u, hu, hru⟩ := hr 0 (by rw [bytesR_get l i hil]; exact Nat.zero_lt_one)
  simp only [bytesR_get l i hil, List.getElem_cons_zero] at hru
  have hu' := hru.raw_eq
  have h2 : w.cell? ⟨gb, 0 + i * 1 + 0, none⟩ = w.cell? ⟨gb, 0 + i, none⟩ := by rw [Nat.mul_one, Nat.add_zero]
  rw [h2] at hu
  have h3 : xs[i] = u := Option.some.inj (hc.symm.trans hu)
  rw [h3, hu']
  simp [Lib.byteCells]
theorem byteCells_append (l : List UInt8) (s : ByteArray) : Lib.byteCells l ++ Lib.strCells s = Lib.byteCells (l ++ s.data.toList) := by simp [Lib.byteCells, Lib.strCells]
variable {A : Base Tryz.prog} {σ : St} {g : Gh} {a : Act} {w : World}
theorem Ok.builder (hk : Ok A σ g a w) {r q : Nat} {c0 : AV} {l : List UInt8} (hb : σ.blk r = some (.cell 91 [c0, .grow q (bytesR l)])) (hln : lentN r = false) (h0 : c0 = .d (.raw (.pointer none)) ∨ c0 = .box r 0) (ht : σ.tok q = some ⟨1, 5, l.length, none⟩) :
  ∃ p0, A.B ≤ g.m r ∧ w.heap[g.m r]? = some (.cells #[p0, g.tv q] 91 (0, 0)) ∧ (p0 = .pointer none ∨ p0 = .pointer (some ⟨g.m r, 0, none⟩)) ∧ w.ownsRow A.B 5 1 (g.tv q) l.length (Lib.byteCells l) ∧ (g.tv q).ownBlock ≠ some (g.m r) ∧ Has g σ.tk w (.grow q (bytesR l)) (g.tv q) := by
 obtain ⟨hBr, arr, hbk, hal, hcs⟩ := hk.blk r _ hb
 match arr, hal with
 | [p0, v], _ =>
  have h1 := hcs 0 (by simp) (by simp)
  have h2 := hcs 1 (by simp) (by simp)
  simp only [List.getElem_cons_zero, List.getElem_cons_succ] at h1 h2
  obtain ⟨xs, hown⟩ := (hk.tok q _ ht).own rfl
  obtain ⟨hrd, htv⟩ := h2.grow_eq
  have hve : v = g.tv q := (htv l.length (by simp [St.tk, ht])).2 (bytesR_length l)
  subst hve
  have hxs := bytes_of_reads hown hrd
  subst hxs
  refine ⟨p0, ?_, hbk, ?_, hown, fun e => hk.tokblk q _ r _ _ ht hb e rfl, h2⟩
  ·rcases hBr with h | h
   ·exact h
   ·have h2 := h.2
    unfold lentB at h2
    rw [hln, Bool.or_false] at h2
    cases h2
  ·rcases h0 with rfl | rfl
   ·exact .inl h1.raw_eq
   ·exact .inr h1.box_eq
theorem Ok.isBuilder (hk : Ok A σ g a w) {r q : Nat} {c0 : AV} {l : List UInt8} (hb : σ.blk r = some (.cell 91 [c0, .grow q (bytesR l)])) (hln : lentN r = false) (h0 : c0 = .d (.raw (.pointer none)) ∨ c0 = .box r 0) (ht : σ.tok q = some ⟨1, 5, l.length, none⟩) :
  Lib.IsBuilder 91 5 A.B (g.m r) (Lib.byteCells l) w := by
 obtain ⟨p0, h1, h2, h3, h4, h5, _⟩ := hk.builder hb hln h0 ht
 rcases h3 with rfl | rfl
 ·exact .inl ⟨h1, _, h2, by rw [Lib.byteCells_length]; exact h4, h5⟩
 ·exact .inr ⟨h1, _, h2, by rw [Lib.byteCells_length]; exact h4, h5⟩
theorem run_call2 {o : Oper} {c : Call} {p : Operand} {f : FuncId} (hk : Ok A σ g a w) (ho : o.op = .call c) (hp : c.callee = .value p) (hf : σ.eval p = .fn f []) (hen : Enters Tryz.prog f) : (execOp a.eval o).run Tryz.prog w = .ok (.enter f (c.args.toList.map a.eval).toArray) w := by
 have hpe := hk.eval p
 rw [hf] at hpe
 obtain ⟨vs, hv, hvl, hvs⟩ := hpe.fn_eq
 obtain rfl : vs = [] := List.eq_nil_of_length_eq_zero hvl.symm
 simp only [execOp, ho, resolve, hp, hv, Deferred.ofValue, Sem.run_bind, Sem.run_pure, Result.andThen_ok, invoke]
 rw [run_callFunc hen]
 have he : #[] ++ c.args.map a.eval ++ [].toArray = (c.args.toList.map a.eval).toArray := by
  apply Array.ext'; simp
 rw [he]
theorem opOk_write {o : Oper} {c : Call} {p m x : Operand} {r q : Nat} {c0 : AV} {l : List UInt8} {s : ByteArray} (ho : o.op = .call c) (hp : c.callee = .value p) (hf : σ.eval p = .fn 53 []) (hargs : c.args.toList = [m, x]) (hm : σ.eval m = .box r 0) (hx : σ.eval x = .d (.raw (.string s)))
  (hb : σ.blk r = some (.cell 91 [c0, .grow q (bytesR l)])) (hln : lentN r = false) (h0 : c0 = .d (.raw (.pointer none)) ∨ c0 = .box r 0) (ht : σ.tok q = some ⟨1, 5, l.length, none⟩) (hlen : l.length + s.size ≤ 140737488355328) :
  OpOk Tryz.prog A o σ ((σ.setTok q (some ⟨1, 5, l.length + s.size, none⟩)).setBlk r (some (.cell 91 [.box r 0, .grow q (bytesR (l ++ s.data.toList))]))) (.tup [.d (.raw (.int .i64 s.size)), .d (.raw .nilIface)]) := by
 intro g a w hk K Q hK
 have hr := run_call2 hk ho hp hf ⟨_, Tryz.func53, by decide +kernel, rfl⟩
 have hme := hk.eval m
 rw [hm] at hme
 have hxe := hk.eval x
 rw [hx] at hxe
 obtain ⟨p0, hB, hbk, hp0, hown, hne, hgr⟩ := hk.builder hb hln h0 ht
 refine wpE_call hr ?_
 rw [hargs]
 simp only [List.map_cons, List.map_nil, hme.box_eq, hxe.raw_eq]
 refine (writeString_raw A.B (g.m r) l.length p0 (g.tv q) (Lib.byteCells l) s w hB hbk hp0 hown hne hlen hk.hB).mono ?_
 rintro e w' ⟨rfl, w1, v', w2, hw1, hbk1, hown2, hgrow, ⟨hat, hv0⟩, rfl⟩
 -- the first cell
 have hoth1 : ∀ b, b ≠ g.m r → w1.heap[b]? = w.heap[b]? := fun b hne => by
  rcases hw1 with rfl | rfl
  ·rfl
  ·exact Below.heap_setCell _ _ _ _ hne
 have hsz1 : w1.heap.size = w.heap.size := by
  rcases hw1 with rfl | rfl
  ·rfl
  ·simp [World.setCell]
 have hbel1 : Below A.B w w1 := by
  rcases hw1 with rfl | rfl
  ·exact Below.refl _ _
  ·exact (Below.refl _ _).setCell (p := ⟨g.m r, 0, none⟩) hB _
 have e1 : Ext (fun _ => False) g σ.tk w g σ.tk w1 := ⟨fun _ _ h => h, fun b o u hf hu => (cell_block (hoth1 b fun e => hk.Fblk r _ hb o (e ▸ hf))).trans hu, fun _ _ => rfl, fun q _ n' hn' => ⟨n', hn', Nat.le_refl _, fun _ => rfl⟩, fun b es c hf hu => (hoth1 b fun e => hk.Fblk r _ hb 0 (e ▸ hf)).trans hu⟩
 obtain ⟨hk1, _⟩ := hk.write (k' := .cell 91 [.box r 0, .grow q (bytesR l)]) hb hoth1 hsz1 (.of hbel1) ⟨[.pointer (some ⟨g.m r, 0, none⟩), g.tv q], hbk1, rfl, fun j hj hj' => by
  match j, hj with
  | 0, _ => exact .box r 0
  | 1, _ => exact hgr.mono e1 fun _ _ => id⟩
 -- the bytes
 have ht1 : (σ.setBlk r (some (.cell 91 [.box r 0, .grow q (bytesR l)]))).tok q = some ⟨1, 5, l.length, none⟩ := ht
 have hB1 := hk1.hB
 have hbel2 : Below A.B w1 w2 := ⟨hgrow.os, hgrow.tape, hgrow.output, hgrow.size, fun b hb' => hgrow.block b (by omega) (fun e => by have := (hown.lt b e.symm).1; omega)⟩
 have hown1 : w1.ownsRow A.B 5 1 (g.tv q) l.length (Lib.byteCells l) := ownsRow_block hown fun x hx => hoth1 x fun e => hne (by rw [hx, e])
 have hkeep : ∀ x o, (g.tv q).ownBlock = some x → o < l.length * 1 → w2.cell? ⟨x, o, none⟩ = w1.cell? ⟨x, o, none⟩ := fun x o hx' ho' => by
  rcases hat with h2 | ⟨_, h2⟩
  ·have hl := Lib.byteCells_length l
   have h1 := hown1.cells (g := x) hx' o (Lib.byteCells l)[o] (List.getElem?_eq_getElem (by omega))
   rw [Addr.add_lit, Nat.zero_add] at h1
   rw [h1]
   have h3 := hown2.cells (g := x) (h2.trans hx') o (Lib.byteCells l)[o] (by rw [List.getElem?_append_left (by omega)]; exact List.getElem?_eq_getElem (by omega))
   rw [Addr.add_lit, Nat.zero_add] at h3
   exact h3
  ·exact cell_block (h2 x (hown1.lt x hx').2)
 obtain ⟨hk2, _⟩ := hk1.append (m := s.size) (v' := v') (w' := w2) ht1 rfl hown2 hgrow hbel2 hkeep (hat.imp id And.left) hv0
 -- the second cell
 have hb2 : ((σ.setBlk r (some (.cell 91 [.box r 0, .grow q (bytesR l)]))).setTok q (some ⟨1, 5, l.length + s.size, none⟩)).blk r = some (.cell 91 [.box r 0, .grow q (bytesR l)]) := by
  rw [St.blk_setTok, St.blk_setBlk, if_pos rfl]
 have hoth2 : ∀ b, b ≠ g.m r → (w2.setCell ⟨g.m r, 1, none⟩ v').heap[b]? = w2.heap[b]? := fun b hne => Below.heap_setCell _ _ _ _ hne
 have hlt1 : g.m r < w1.heap.size := (Array.getElem?_eq_some_iff.1 hbk1).1
 have hbk2 : w2.heap[g.m r]? = some (.cells #[.pointer (some ⟨g.m r, 0, none⟩), g.tv q] 91 (0, 0)) := by
  rw [hgrow.block _ hlt1 fun e => hne e.symm]; exact hbk1
 have hne2 : v'.ownBlock ≠ some (g.m r) := fun e => by
  rcases hat with h2 | ⟨h2, _⟩
  ·exact hne (h2.symm.trans e)
  ·rw [h2] at e; injection e with e; omega
 have hll : (l ++ s.data.toList).length = l.length + s.size := by
  rw [List.length_append]; rfl
 have hown3 : (w2.setCell ⟨g.m r, 1, none⟩ v').ownsRow A.B 5 1 v' (l ++ s.data.toList).length (Lib.byteCells (l ++ s.data.toList)) := by
  rw [hll, ← byteCells_append]
  exact ownsRow_block hown2 fun x hx => hoth2 x fun e => hne2 (by rw [hx, e])
 have htk : ((σ.setBlk r (some (.cell 91 [.box r 0, .grow q (bytesR l)]))).setTok q (some ⟨1, 5, l.length + s.size, none⟩)).tk q = some (l.length + s.size) := by simp [St.tk, St.tok_setTok]
 obtain ⟨hk3, _⟩ := hk2.write (k' := .cell 91 [.box r 0, .grow q (bytesR (l ++ s.data.toList))]) hb2 hoth2 (by simp [World.setCell]) (.of ((Below.refl _ _).setCell (p := ⟨g.m r, 1, none⟩) hB _)) ⟨[.pointer (some ⟨g.m r, 0, none⟩), v'], by simp [World.setCell, Array.getElem?_modify, hbk2], rfl, fun j hj hj' => by
  match j, hj with
  | 0, _ => exact .box r 0
  | 1, _ =>
   refine .grow q _ _ (reads_bytes hown3 fun b o hb' ho' => .inr ⟨hb', by show o < (l.length + s.size) * 1; omega⟩) fun n' hn' => ?_
   rw [htk] at hn'
   cases hn'
   rw [bytesR_length, hll]
   exact ⟨Nat.le_refl _, fun _ => (updN_same g.tv q v').symm⟩⟩
 refine hK _ _ _ (hk3.sub (fun t => .inr rfl) (fun r' => .inr ?_) (fun r' => .inr rfl)) (.tup _ [.int .i64 s.size, .nilIface] rfl fun i hi hv => ?_)
 ·rw [St.blk_setBlk, St.blk_setBlk, St.blk_setTok, St.blk_setTok, St.blk_setBlk]
  by_cases e : r = r'
  ·rw [if_pos e, if_pos e]
  ·rw [if_neg e, if_neg e, if_neg e]
 ·match i, hi with
  | 0, _ => exact .d (.raw _)
  | 1, _ => exact .d (.raw _)
theorem goWrite (n : Nat) {all : List Oper} {f : FuncId} {o : Oper} {rest : List Oper} {i base : Nat} {st : List Itm} {Q : Exit → St → Prop} {c : Call} {p m x : Operand} {r q : Nat} {c0 : AV} {l : List UInt8} {s : ByteArray} (ho : o.op = .call c) (hp : c.callee = .value p) (hf : σ.eval p = .fn 53 []) (hargs : c.args.toList = [m, x]) (hm : σ.eval m = .box r 0) (hx : σ.eval x = .d (.raw (.string s)))
  (hb : σ.blk r = some (.cell 91 [c0, .grow q (bytesR l)])) (h0 : c0 = .d (.raw (.pointer none)) ∨ c0 = .box r 0) (ht : σ.tok q = some ⟨1, 5, l.length, none⟩) (hlen : l.length + s.size ≤ 140737488355328) (hd : dstOk A.N o = true)
  (hr : go Tryz.prog A n (.ops all rest (i + 1) base) st (((σ.setTok q (some ⟨1, 5, l.length + s.size, none⟩)).setBlk r (some (.cell 91 [.box r 0, .grow q (bytesR (l ++ s.data.toList))]))).put o.dst (.tup [.d (.raw (.int .i64 s.size)), .d (.raw .nilIface)])) Q) (hln : lentN r = false := by rfl) : SemM Tryz.prog A (.exe (some f) all o rest i base) st σ Q :=
 satE_op (opOk_write ho hp hf hargs hm hx hb hln h0 ht hlen) hd (go_ok n _ _ _ _ hr)
theorem opOk_blen {o : Oper} {c : Call} {p m : Operand} {r q : Nat} {c0 : AV} {l : List UInt8} (ho : o.op = .call c) (hp : c.callee = .value p) (hf : σ.eval p = .fn 55 []) (hargs : c.args.toList = [m]) (hm : σ.eval m = .box r 0)
  (hb : σ.blk r = some (.cell 91 [c0, .grow q (bytesR l)])) (hln : lentN r = false) (h0 : c0 = .d (.raw (.pointer none)) ∨ c0 = .box r 0) (ht : σ.tok q = some ⟨1, 5, l.length, none⟩) :
  OpOk Tryz.prog A o σ σ (.d (.raw (.int .i64 l.length))) := by
 intro g a w hk K Q hK
 have hr := run_call2 hk ho hp hf ⟨_, Tryz.func55, by decide +kernel, rfl⟩
 have hme := hk.eval m
 rw [hm] at hme
 have hib := hk.isBuilder hb hln h0 ht
 refine wpE_call hr ?_
 rw [hargs]
 simp only [List.map_cons, List.map_nil, hme.box_eq]
 refine (Tryz.Builder_Len A.B (g.m r) _ w hib).mono ?_
 rintro e w' ⟨rfl, rfl⟩
 rw [Lib.byteCells_length]
 exact hK g _ _ hk (.d (.raw _))
theorem goLen (n : Nat) {all : List Oper} {f : FuncId} {o : Oper} {rest : List Oper} {i base : Nat} {st : List Itm} {Q : Exit → St → Prop} {c : Call} {p m : Operand} {r q : Nat} {c0 : AV} {l : List UInt8} (ho : o.op = .call c) (hp : c.callee = .value p) (hf : σ.eval p = .fn 55 []) (hargs : c.args.toList = [m]) (hm : σ.eval m = .box r 0)
  (hb : σ.blk r = some (.cell 91 [c0, .grow q (bytesR l)])) (h0 : c0 = .d (.raw (.pointer none)) ∨ c0 = .box r 0) (ht : σ.tok q = some ⟨1, 5, l.length, none⟩) (hd : dstOk A.N o = true)
  (hr : go Tryz.prog A n (.ops all rest (i + 1) base) st (σ.put o.dst (.d (.raw (.int .i64 l.length)))) Q) (hln : lentN r = false := by rfl) : SemM Tryz.prog A (.exe (some f) all o rest i base) st σ Q :=
 satE_op (opOk_blen ho hp hf hargs hm hb hln h0 ht) hd (go_ok n _ _ _ _ hr)
theorem opOk_bstring {o : Oper} {c : Call} {p m : Operand} {r q : Nat} {c0 : AV} {l : List UInt8} (ho : o.op = .call c) (hp : c.callee = .value p) (hf : σ.eval p = .fn 56 []) (hargs : c.args.toList = [m]) (hm : σ.eval m = .box r 0)
  (hb : σ.blk r = some (.cell 91 [c0, .grow q (bytesR l)])) (hln : lentN r = false) (h0 : c0 = .d (.raw (.pointer none)) ∨ c0 = .box r 0) (ht : σ.tok q = some ⟨1, 5, l.length, none⟩) :
  OpOk Tryz.prog A o σ ⟨[], [], []⟩ (.d (.raw (.string ⟨l.toArray⟩))) := by
 intro g a w hk K Q hK
 have hr := run_call2 hk ho hp hf ⟨_, Tryz.func56, by decide +kernel, rfl⟩
 have hme := hk.eval m
 rw [hm] at hme
 have hib := hk.isBuilder hb hln h0 ht
 refine wpE_call hr ?_
 rw [hargs]
 simp only [List.map_cons, List.map_nil, hme.box_eq]
 refine (Tryz.Builder_String_any A.B (g.m r) l w hib hk.hB).mono ?_
 rintro e w' ⟨rfl, hbel⟩
 have hs := hbel.size
 have hB := hk.hB
 refine hK ⟨g.m, g.tv, A.F0⟩ _ _ ⟨hk.below.trans (.of hbel), by omega, fun _ _ h => h, fun _ _ h => .inl h, fun b o hf => by have := hk.Fb b o (hk.F0 b o hf); omega, hk.defers, hk.size, fun t => .dead _, fun r b h => by simp [St.blk, look] at h, fun r b h => by simp [St.blk, look] at h, fun r b r' b' h => by simp [St.blk, look] at h, fun r k h => by simp [St.tok, look] at h, fun r k x h => by simp [St.tok, look] at h, fun r k r' b x h => by simp [St.tok, look] at h, fun r k r' k' x h => by simp [St.tok, look] at h, hk.fix, fun r n0 _ n hn => by simp [St.tk, St.tok, look] at hn⟩ (.d (.raw _))
theorem goString (n : Nat) {all : List Oper} {f : FuncId} {o : Oper} {rest : List Oper} {i base : Nat} {st : List Itm} {Q : Exit → St → Prop} {c : Call} {p m : Operand} {r q : Nat} {c0 : AV} {l : List UInt8} (ho : o.op = .call c) (hp : c.callee = .value p) (hf : σ.eval p = .fn 56 []) (hargs : c.args.toList = [m]) (hm : σ.eval m = .box r 0)
  (hb : σ.blk r = some (.cell 91 [c0, .grow q (bytesR l)])) (h0 : c0 = .d (.raw (.pointer none)) ∨ c0 = .box r 0) (ht : σ.tok q = some ⟨1, 5, l.length, none⟩) (hd : dstOk A.N o = true)
  (hr : go Tryz.prog A n (.ops all rest (i + 1) base) st (St.put ⟨[], [], []⟩ o.dst (.d (.raw (.string ⟨l.toArray⟩)))) Q) (hln : lentN r = false := by rfl) : SemM Tryz.prog A (.exe (some f) all o rest i base) st σ Q :=
 satE_op (opOk_bstring ho hp hf hargs hm hb hln h0 ht) hd (go_ok n _ _ _ _ hr)
end Go.Proofs.YtnnolijagpakiaaGreatDoor
