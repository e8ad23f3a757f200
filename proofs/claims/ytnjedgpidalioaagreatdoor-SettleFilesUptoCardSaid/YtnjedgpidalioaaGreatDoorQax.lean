/- Texts of this proof, part 24: what the proof uses of them. -/
import Derived.Test.YtnjedgpidalioaaGreatDoorQaw
namespace Go.Proofs.YtnjedgpidalioaaGreatDoor
section
open Go Go.RowKit
def findV : List Fl → ByteArray → ByteArray × Bool
 | [], _ => (⟨#[]⟩, false)
 | x :: l, s => if x.path = s then (x.data, true) else findV l s
abbrev ffSt (l : List Fl) (s : ByteArray) (q : Nat) : St := ⟨[(0, .d (.sl (encFs l))), (1, .d (.raw (.string s))), (6, .d (.raw (.int .i64 q)))], [], []⟩
set_option maxRecDepth 100000 in
set_option maxHeartbeats 8000000 in
theorem rffind_c (l : List Fl) (s : ByteArray) (hl : l.length ≤ 1048576) : Con Tryz.prog 38 [.d (.sl (encFs l)), .d (.raw (.string s))] (.tup [.d (.raw (.string (findV l s).1)), .d (.raw (.bool (findV l s).2))]) := by
 refine con_of Tryz.func38 rfl (by decide +kernel) rfl rfl (by simp [Tryz.ntmps38]) fun A hA => ?_
 rw [Tryz.ntmps38] at hA
 refine goC 400 ?_
 simp only [go_sem, hA]
 refine satC_loop [0, 1, 6] [] [] (fun y σ => ∃ q : Nat, q ≤ l.length ∧ y = l.length - q ∧ findV (l.drop q) s = findV l s ∧ σ = ffSt l s q) l.length ⟨0, by omega, by omega, rfl, by simp only [go_sem, ffSt]⟩ ?_
 rintro y σ ⟨q, hq, rfl, hf, rfl⟩
 refine goC 400 ?_
 by_cases hlt : q < l.length
 ·have k1 : decide ((q : Int) < (l.length : Int)) = true := decide_eq_true (by omega)
  rw [List.drop_eq_getElem_cons hlt, findV] at hf
  by_cases hp : l[q].path = s
  ·rw [if_pos hp] at hf
   have k2 : decide (l[q].path = s) = true := decide_eq_true hp
   simp only [go_sem, hA, ffSt, encFs_length, k1, Int.toNat_natCast, encFs_at l q hlt, k2, ← hf, Tryz.results38]
   exact ⟨⟨by omega, by omega⟩, ⟨by omega, by omega⟩⟩
  ·rw [if_neg hp] at hf
   have k2 : decide (l[q].path = s) = false := decide_eq_false hp
   simp only [go_sem, hA, ffSt, encFs_length, k1, Int.toNat_natCast, encFs_at l q hlt, k2]
   exact ⟨⟨by omega, by omega⟩, by unfold inI64; omega, l.length - (q + 1), by omega, q + 1, by omega, rfl, hf, rfl⟩
 ·have k1 : decide ((q : Int) < (l.length : Int)) = false := decide_eq_false (by omega)
  have hd : l.drop q = [] := List.drop_eq_nil_of_le (by omega)
  rw [hd, findV] at hf
  simp only [go_sem, hA, ffSt, encFs_length, k1, ← hf, Tryz.results38]
set_option maxRecDepth 100000 in
theorem rfFind_c (l : List Fl) (s : ByteArray) (hl : l.length ≤ 1048576) : Con Tryz.prog 14 [.d (.sl (encFs l)), .d (.raw (.string s))] (.tup [.d (.raw (.string (findV l s).1)), .d (.raw (.bool (findV l s).2))]) := by
 refine con_of Tryz.func14 rfl (by decide +kernel) rfl rfl (by simp [Tryz.ntmps14]) fun A hA => ?_
 rw [Tryz.ntmps14] at hA
 refine goC 400 ?_
 simp only [go_sem, hA]
 refine goCall 400 (rffind_c l s hl) rfl (by simp only [go_sem]) (by simp only [go_sem, hA]) ?_
 simp only [go_sem, hA, Tryz.results14]
theorem findV_none : ∀ {l : List Fl} {s : ByteArray}, (∀ x ∈ l, x.path ≠ s) → findV l s = (⟨#[]⟩, false)
 | [], _, _ => rfl
 | x :: l, s, h => by
  rw [findV, if_neg (h x (List.mem_cons_self ..)), findV_none fun y hy => h y (List.mem_cons_of_mem _ hy)]
theorem findV_mem : ∀ {l : List Fl} {x : Fl}, Sk Fl.path l → x ∈ l → findV l x.path = (x.data, true)
 | y :: l, x, h, hx => by
  rw [findV]
  split
  ·rename_i e
   rw [sk_inj h (List.mem_cons_self ..) hx e]
  ·rename_i e
   rcases List.mem_cons.1 hx with e' | hx
   ·subst e'; exact absurd rfl e
   ·exact findV_mem (List.pairwise_cons.1 h).2 hx
theorem firstN_all {f : Nat → Int} : ∀ n, (∀ i, i < n → f i = 0) → firstN f n = 0
 | 0, _ => rfl
 | n + 1, h => firstN_step (firstN_all n fun i hi => h i (by omega)) (h n (by omega))
theorem textX_ok' {c : Tc} (h : textX c = 0) : pathL c.path.data.toList = true ∧ isMod c.path = false ∧ ∀ k, tcIn c k = false → tcSide c k = ⟨#[]⟩ := by
 unfold textX at h
 split at h
 ·cases h
 rename_i h1
 split at h
 ·cases h
 rename_i h2
 split at h
 ·cases h
 rename_i h3
 refine ⟨?_, by simpa using h2, fun k hk => ?_⟩
 ·have h4 : treeX [⟨c.path, ⟨#[]⟩⟩] = 0 := by
   cases h5 : spL c.path with
   | false => exact absurd h5 h1
   | true => unfold spL at h5; exact of_decide_eq_true h5
  unfold treeX at h4
  split at h4
  ·cases h4
  split at h4
  ·exact absurd h4 (by assumption)
  rename_i h5
  have h6 := firstN_zero (Decidable.not_not.1 h5) 0 (by simp)
  unfold fileE at h6
  split at h6
  ·rename_i h7; exact h7
  ·cases h6
 ·simp only [Bool.or_eq_true, Bool.and_eq_true, Bool.not_eq_true', not_or, not_and, neS, decide_eq_true_eq, Decidable.not_not] at h3
  unfold tcIn pick3 at hk
  unfold tcSide pick3
  split at hk
  ·rename_i e; rw [if_pos e]; exact h3.1.2 hk
  ·rename_i e
   rw [if_neg e]
   split at hk
   ·rename_i e2; rw [if_pos e2]; exact h3.1.1 hk
   ·rename_i e2; rw [if_neg e2]; exact h3.2 hk
abbrev fileM (m : Mg) (c : Tc) (k : Nat) : Mg := ⟨m.ms, insC m.fs c k, rmL m.ts (m.ts.findIdx (isText c.path))⟩
theorem fileM_err {m : Mg} (h0 : settX m = 0) {c : Tc} (hc : c ∈ m.ts) (k : Nat) : settX (fileM m c k) = 0 ∨ settX (fileM m c k) = 4 ∨ settX (fileM m c k) = 7 := by
 obtain ⟨p1, p2, p3, p4, p5⟩ := sett_parts h0
 have hsk := tree_sk p2
 have hfree := text_free h0 hc
 have hx := insC_sk hsk c k hfree
 obtain ⟨i, hi, rfl⟩ := List.mem_iff_getElem.1 hc
 obtain ⟨t1, t2, _⟩ := texts_at h0 i hi
 obtain ⟨t3, t4, _⟩ := textX_ok' t1
 generalize hcc : m.ts[i] = c at *
 have hpath : ∀ x ∈ insC m.fs c k, pathL x.path.data.toList = true ∧ isMod x.path = false := fun x hxm => by
  rcases insC_mem.1 hxm with h1 | ⟨_, h1⟩
  ·obtain ⟨j, hj, rfl⟩ := List.mem_iff_getElem.1 h1
   refine ⟨?_, any_false p3 h1⟩
   unfold treeX at p2
   split at p2
   ·cases p2
   split at p2
   ·exact absurd p2 (by assumption)
   rename_i h5
   have h6 := firstN_zero (Decidable.not_not.1 h5) j hj
   unfold fileE at h6
   split at h6
   ·rename_i h7; rw [atF_get _ _ hj] at h7; exact h7
   ·cases h6
  ·rw [h1]; exact ⟨t3, t4⟩
 have hfile : firstN (fileE (insC m.fs c k)) (insC m.fs c k).length = 0 := by
  refine firstN_all _ fun j hj => ?_
  unfold fileE
  rw [atF_get _ _ hj, if_pos (hpath _ (List.getElem_mem hj)).1, if_neg]
  rintro ⟨h1, h2⟩
  rw [atF_get _ _ (by omega)] at h2
  have h3 := List.pairwise_iff_getElem.1 hx (j - 1) j (by omega) hj (by omega)
  unfold leS at h2
  simp only [Bool.or_eq_true, decide_eq_true_eq] at h2
  rcases h2 with h2 | h2
  ·exact ltL_irrefl _ (ltL_trans h3 ((bytesLess_iff _ _).1 h2))
  ·rw [h2] at h3; exact ltL_irrefl _ h3
 have htree : treeX (insC m.fs c k) = 0 ∨ treeX (insC m.fs c k) = 4 ∨ treeX (insC m.fs c k) = 7 := by
  unfold treeX
  rw [if_neg (Decidable.not_not.2 hfile)]
  split
  ·exact .inr (.inl rfl)
  ·split
   ·exact .inr (.inr rfl)
   ·exact .inl rfl
 unfold settX
 rw [if_neg (Decidable.not_not.2 p1)]
 split
 ·exact htree
 refine .inl ?_
 have h1 : (insC m.fs c k).any (fun x => isMod x.path) = false := List.any_eq_false.2 fun x hxm => by rw [(hpath x hxm).2]; decide
 rw [if_neg (by rw [h1]; decide), if_neg (by have := (rm_sub m.ts (m.ts.findIdx (isText c.path))).length_le; have hl : (fileM m c k).ts.length = (rmL m.ts (m.ts.findIdx (isText c.path))).length := rfl; omega)]
 refine firstN_all _ fun j hj => ?_
 have hmem : (rmL m.ts (m.ts.findIdx (isText c.path)))[j] ∈ rmL m.ts (m.ts.findIdx (isText c.path)) := List.getElem_mem hj
 obtain ⟨g1, g2⟩ := (rm_text h0 hc _).1 hmem
 obtain ⟨n, hn, hne⟩ := List.mem_iff_getElem.1 g1
 obtain ⟨u1, u2, _⟩ := texts_at h0 n hn
 rw [hne] at u1 u2
 unfold textE
 rw [atC_get _ j hj, if_neg (Decidable.not_not.2 u1), if_neg, if_neg]
 ·rw [insC_free hsk c k hfree u2 g2]; decide
 ·rintro ⟨h1, h2⟩
  rw [atC_get _ _ (by omega)] at h2
  have h3 := List.pairwise_iff_getElem.1 (rm_sk (texts_sk h0) (m.ts.findIdx (isText c.path))) (j - 1) j (Nat.lt_of_le_of_lt (Nat.sub_le _ _) hj) hj (by omega)
  unfold leS at h2
  simp only [Bool.or_eq_true, decide_eq_true_eq] at h2
  rcases h2 with h2 | h2
  ·exact ltL_irrefl _ (ltL_trans h3 ((bytesLess_iff _ _).1 h2))
  ·rw [h2] at h3; exact ltL_irrefl _ h3
theorem file_settled {m : Mg} (h0 : settX m = 0) {c : Tc} (hc : c ∈ m.ts) (k : Nat) : settled m ⟨c.path, 5, 0, 0⟩ k = if settX (fileM m c k) = 0 then (fileM m c k, 0) else (zeroG, settX (fileM m c k)) := by
 unfold settled
 rw [step_text h0 hc k]
 simp only [not_true_eq_false, if_false]
 by_cases h : settX (fileM m c k) = 0
 ·rw [if_neg (Decidable.not_not.2 h), if_pos h]
 ·rw [if_pos h, if_neg h]
theorem fileM_here {m : Mg} (h0 : settX m = 0) {c : Tc} (hc : c ∈ m.ts) (k : Nat) : findV (fileM m c k).fs c.path = (tcSide c k, tcIn c k) := by
 have hsk := tree_sk (sett_parts h0).2.1
 have hfree := text_free h0 hc
 cases hin : tcIn c k with
 | true => exact findV_mem (x := ⟨c.path, tcSide c k⟩) (insC_sk hsk c k hfree) (insC_mem.2 (.inr ⟨hin, rfl⟩))
 | false =>
  obtain ⟨i, hi, hce⟩ := List.mem_iff_getElem.1 hc
  obtain ⟨t1, _⟩ := texts_at h0 i hi
  rw [hce] at t1
  rw [(textX_ok' t1).2.2 k hin]
  refine findV_none fun x hx e => ?_
  rcases insC_mem.1 hx with h1 | ⟨h1, _⟩
  ·rw [(hasF_iff hsk _).2 ⟨x, h1, e⟩] at hfree; cases hfree
  ·rw [hin] at h1; cases h1
theorem fileM_stay {m : Mg} (h0 : settX m = 0) {c : Tc} (hc : c ∈ m.ts) (k : Nat) {x : Fl} (hx : x ∈ m.fs) : findV (fileM m c k).fs x.path = (x.data, true) :=
 findV_mem (insC_sk (tree_sk (sett_parts h0).2.1) c k (text_free h0 hc)) (insC_mem.2 (.inl hx))
theorem fileM_len {m : Mg} (h0 : settX m = 0) {c : Tc} (hc : c ∈ m.ts) (k : Nat) : (fileM m c k).ts.length + 1 = m.ts.length ∧ (fileM m c k).fs.length = m.fs.length + (if tcIn c k = true then 1 else 0) ∧ (listQ (fileM m c k)).length + 1 = (listQ m).length ∧ ∀ s ∈ listQ (fileM m c k), s ∈ listQ m := by
 have h1 : (rmL m.ts (m.ts.findIdx (isText c.path))).length + 1 = m.ts.length := by
  have := (text_of h0 hc).1
  unfold rmL
  rw [List.length_append, List.length_take, List.length_drop]; omega
 refine ⟨h1, ?_, ?_, fun s hs => ?_⟩
 ·show (insC m.fs c k).length = _
  unfold insC
  split
  ·rw [insFl_len]
  ·rfl
 ·unfold listQ
  rw [List.length_append, List.length_append, List.length_map, List.length_map]
  have h2 : (fileM m c k).ts.length + 1 = m.ts.length := h1
  have h3 : ((fileM m c k).ms.flatMap confMQ).length = (m.ms.flatMap confMQ).length := rfl
  omega
 ·rcases mem_listQ.1 hs with h | ⟨d, hd, h⟩
  ·exact mem_listQ.2 (.inl h)
  ·exact mem_listQ.2 (.inr ⟨d, (rm_sub _ _).subset hd, h⟩)
end
section
open Go Go.RowKit
theorem encCs_get (l : List Tc) (i : Nat) (h : i < l.length) : (encCs l).getD i [] = encC (atC l i) := by rw [encCs_at l i h, atC_get l i h]
abbrev lf1St (m Y : Mg) (b : Bool) (q : Nat) : St := ⟨[(3, .box 0 0), (9, .box 5012 0), (12, .d (.raw (.bool b))), (130, .d (.sl (encFs m.fs))), (131, .d (.raw (.int .i64 m.fs.length))), (132, .d (.raw (.int .i64 q)))], [(0, some (.cell 26 [.d (.sl (encMs m.ms)), .d (.sl (encFs m.fs)), .d (.sl (encCs m.ts))])), (5012, some (.cell 26 [.d (.sl (encMs Y.ms)), .d (.sl (encFs Y.fs)), .d (.sl (encCs Y.ts))]))], []⟩
abbrev lf2St (m Y : Mg) (b : Bool) (q : Nat) : St := ⟨[(3, .box 0 0), (9, .box 5012 0), (12, .d (.raw (.bool b))), (19, .d (.sl (encQs (listQ m)))), (20, .d (.sl (encQs (listQ Y)))), (157, .d (.sl (encQs (listQ Y)))), (158, .d (.raw (.int .i64 (listQ Y).length))), (159, .d (.raw (.int .i64 q)))], [(0, some (.cell 26 [.d (.sl (encMs m.ms)), .d (.sl (encFs m.fs)), .d (.sl (encCs m.ts))])), (5012, some (.cell 26 [.d (.sl (encMs Y.ms)), .d (.sl (encFs Y.fs)), .d (.sl (encCs Y.ts))]))], []⟩
set_option maxRecDepth 100000 in
set_option maxHeartbeats 32000000 in
theorem lawFiles_c (m : Mg) (hb : ∀ x ∈ m.ms, ∀ d ∈ x.decls, nodesE d.body ≤ 1048576) (i s : Int) (hi : 0 ≤ i ∧ i ≤ 255) (hs : 0 ≤ s ∧ s ≤ 255) :
  Con Tryz.prog 5 [avG m, .d (.raw (.int .u8 i)), .d (.raw (.int .u8 s))] (.d (.raw (.bool true))) := by
 refine con_of Tryz.func5 rfl (by decide +kernel) rfl rfl (by simp [Tryz.ntmps5]) fun A hA => ?_
 rw [Tryz.ntmps5] at hA
 refine goC 400 ?_
 simp only [go_sem, hA, avG]
 refine goCall 400 (rGreatG_c m hb) rfl (by simp only [go_sem, avG]) (by simp only [go_sem, hA]) ?_
 cases h1 : greatG m with
 | true =>
  simp only [go_sem, hA]
  refine goCall 400 awake37_c rfl rfl (by simp only [go_sem, hA]) ?_
  simp only [go_sem, hA, Tryz.results5]
 | false =>
 have hg := great_good h1
 simp only [go_sem, hA]
 refine goCall 400 (settle_c m hg.fine) rfl (by simp only [go_sem, avG]) (by simp only [go_sem, hA]) ?_
 by_cases h0 : ¬ settX m = 0
 ·have k1 : (decide ¬ settX m = 0) = true := decide_eq_true h0
  simp only [go_sem, hA, k1]
  refine goCall 400 awake37_c rfl rfl (by simp only [go_sem, hA]) ?_
  simp only [go_sem, hA, Tryz.results5]
 have k1 : (decide ¬ settX m = 0) = false := decide_eq_false h0
 have h0 := Decidable.not_not.1 h0
 by_cases h2 : (m.ts.length : Int) = 0
 ·have k2 : decide ((m.ts.length : Int) = 0) = true := decide_eq_true h2
  simp only [go_sem, hA, k1, encCs_length, k2]
  refine goCall 400 awake37_c rfl rfl (by simp only [go_sem, hA]) ?_
  simp only [go_sem, hA, Tryz.results5]
 have k2 : decide ((m.ts.length : Int) = 0) = false := decide_eq_false h2
 have w1 : IntKind.i64.wrap i = i := by rw [IntKind.wrap_i64]; omega
 have w2 : IntKind.i64.wrap s = s := by rw [IntKind.wrap_i64]; omega
 obtain ⟨p, hp, hpl⟩ : ∃ p : Nat, i.tmod (m.ts.length : Int) = (p : Int) ∧ p < m.ts.length := by
  have h3 := Int.tmod_nonneg (m.ts.length : Int) hi.1
  have h4 := Int.tmod_lt_of_pos i (show (0 : Int) < (m.ts.length : Int) by omega)
  exact ⟨(i.tmod (m.ts.length : Int)).toNat, by omega, by omega⟩
 obtain ⟨k, hk, hk2⟩ : ∃ k : Nat, s.tmod 3 = (k : Int) ∧ k ≤ 2 := by
  have h3 := Int.tmod_nonneg 3 hs.1
  have h4 := Int.tmod_lt_of_pos s (show (0 : Int) < 3 by decide)
  exact ⟨(s.tmod 3).toNat, by omega, by omega⟩
 have hc := atC_mem m.ts p hpl
 have ec := encCs_get m.ts p hpl
 generalize hcq : atC m.ts p = c at hc ec
 have hspot : (⟨c.path, 5, 0, 0⟩ : Sq) ∈ listQ m := mem_listQ.2 (.inr ⟨c, hc, rfl⟩)
 have c1 := choose_c m hg (ixF (fun y => eqQ y ⟨c.path, 5, 0, 0⟩) (listQ m)) (k : Int)
 rw [choose_spot h0 hspot _ ⟨by omega, by omega⟩, Int.toNat_natCast] at c1
 have gx := (settled_good hg h0 hspot k).1
 rw [file_settled h0 hc k] at c1 gx
 have herr := fileM_err h0 hc k
 have hhere := fileM_here h0 hc k
 have hstay := fun x (hx : x ∈ m.fs) => fileM_stay h0 hc k hx
 have hlen := fileM_len h0 hc k
 have hms : (fileM m c k).ms = m.ms := rfl
 generalize hY : fileM m c k = Y at c1 gx herr hhere hstay hlen hms
 have fx := lFind_c (listQ m) ⟨c.path, 5, 0, 0⟩ (listQ_few hg)
 have lm := listV_c m hg
 rw [show listV m = listQ m from if_pos h0] at lm
 generalize hxs : ixF (fun y => eqQ y ⟨c.path, 5, 0, 0⟩) (listQ m) = xs at c1 fx
 simp only [go_sem, hA, k1, k2, encCs_length, w1, w2, mixedF, hp, hk, Int.toNat_natCast, ec, encC]
 refine ⟨h2, ⟨by omega, by omega⟩, by show chk _ _ _ = true; kernel_rfl, by decide, ?_⟩
 refine goCallD 400 lm rfl (by simp only [go_sem, avG]) (by simp only [go_sem, hA]) ?_
 simp only [go_sem, hA]
 refine goCallD 400 fx rfl (by simp only [go_sem, avQ]) (by simp only [go_sem, hA]) ?_
 simp only [go_sem, hA]
 by_cases hz : settX Y = 0
 rotate_left
 ·rw [if_neg hz] at c1
  refine goCallD 400 c1 rfl (by simp only [go_sem, avG]) (by simp only [go_sem, hA]) ?_
  have q1 : (decide ¬ (4 : Int) = 0) = true := by decide
  have q2 : decide ((4 : Int) = 7) = false := by decide
  have q3 : decide ((4 : Int) = 4) = true := by decide
  have q4 : (decide ¬ (7 : Int) = 0) = true := by decide
  have q5 : decide ((7 : Int) = 7) = true := by decide
  rcases herr with h | h | h
  ·exact absurd h hz
  ·rw [h]
   simp only [go_sem, hA, avG, q1, q2]
   refine ⟨by show chk _ _ _ = true; kernel_rfl, ?_⟩
   refine goCall 400 awake37_c rfl rfl (by simp only [go_sem, hA]) ?_
   simp only [go_sem, hA, Tryz.results5]
  ·rw [h]
   simp only [go_sem, hA, avG, q4]
   refine ⟨by show chk _ _ _ = true; kernel_rfl, ?_⟩
   refine goCall 400 awake37_c rfl rfl (by simp only [go_sem, hA]) ?_
   simp only [go_sem, hA, Tryz.results5]
 rw [if_pos hz] at c1 gx
 simp only at c1 gx
 have hp1 : [[D.raw (Value.bool c.inL)], [D.raw (Value.bool c.inB)], [D.raw (Value.bool c.inR)]].getD k [] = [D.raw (Value.bool (tcIn c k))] := by
  rw [pick3_at k (by omega)]; exact pick3_map (fun b => [D.raw (Value.bool b)]) k _ _ _
 have hp2 : [[D.raw (Value.string c.left)], [D.raw (Value.string c.base)], [D.raw (Value.string c.right)]].getD k [] = [D.raw (Value.string (tcSide c k))] := by
  rw [pick3_at k (by omega)]; exact pick3_map (fun b => [D.raw (Value.string b)]) k _ _ _
 refine goCallD 400 c1 rfl (by simp only [go_sem, avG]) (by simp only [go_sem, hA]) ?_
 simp only [go_sem, hA, avG, mixedF, hp1, hp2, Int.toNat_natCast]
 refine ⟨by show chk _ _ _ = true; kernel_rfl, ⟨by omega, by omega⟩, ⟨by omega, by omega⟩, by show chk _ _ _ = true; kernel_rfl, ?_⟩
 refine goCall 400 (rfFind_c Y.fs c.path gx.fine.fl) rfl (by simp only [go_sem]) (by simp only [go_sem, hA]) ?_
 rw [hhere]
 have k3 : (decide ¬ tcSide c k = tcSide c k) = false := decide_eq_false (by simp)
 have k4 : (decide ¬ tcIn c k = tcIn c k) = false := decide_eq_false (by simp)
 have k5 : (decide ¬ (Y.ts.length : Int) = (m.ts.length : Int) - 1) = false := decide_eq_false (by omega)
 have k6 : (decide ¬ (Y.ms.length : Int) = (m.ms.length : Int)) = false := decide_eq_false (by rw [hms]; simp)
 simp only [go_sem, hA, k5, k6, encCs_length, encMs_length, encFs_length]
 refine ⟨by have := hg.tl; unfold inI64; omega, ?_⟩
 have lm2 := lm
 have ly := listV_c Y gx
 rw [show listV Y = listQ Y from if_pos hz] at ly
 refine satC_loop [3, 9, 12, 130, 131, 132] [0, 5012] [] (fun y σ => ∃ q : Nat, q ≤ m.fs.length ∧ y = m.fs.length - q ∧ σ = lf1St m Y (tcIn c k) q) m.fs.length ⟨0, by omega, by omega, by simp only [go_sem, lf1St]⟩ ?_
 rintro y σ ⟨q, hq, rfl, rfl⟩
 refine goC 400 ?_
 by_cases hlt : q < m.fs.length
 ·have k7 : decide ((q : Int) < (m.fs.length : Int)) = true := decide_eq_true (by omega)
  have hst := hstay m.fs[q] (List.getElem_mem hlt)
  generalize hxq : m.fs[q] = x at hst
  have hff := rfFind_c Y.fs x.path gx.fine.fl
  rw [hst] at hff
  have k8 : (decide ¬ x.data = x.data) = false := decide_eq_false (by simp)
  have hat := encFs_at m.fs q hlt
  rw [hxq] at hat
  simp only [go_sem, hA, lf1St, encFs_length, k7, Int.toNat_natCast, hat]
  refine ⟨⟨by omega, by omega⟩, ?_⟩
  refine goCall 400 hff rfl (by simp only [go_sem]) (by simp only [go_sem, hA]) ?_
  simp only [go_sem, hA]
  exact ⟨by have := hg.fine.fl; unfold inI64; omega, m.fs.length - (q + 1), by omega, q + 1, by omega, rfl, rfl⟩
 have k7 : decide ((q : Int) < (m.fs.length : Int)) = false := decide_eq_false (by omega)
 simp only [go_sem, hA, lf1St, k7]
 refine goCall 400 lm2 rfl (by simp only [go_sem, avG]) (by simp only [go_sem, hA]) ?_
 simp only [go_sem, hA]
 refine goCall 400 ly rfl (by simp only [go_sem, avG]) (by simp only [go_sem, hA]) ?_
 simp only [go_sem, hA, encQs_length]
 clear hlt k7 hq
 refine satC_loop [3, 9, 12, 19, 20, 157, 158, 159] [0, 5012] [] (fun y σ => ∃ q : Nat, q ≤ (listQ Y).length ∧ y = (listQ Y).length - q ∧ σ = lf2St m Y (tcIn c k) q) (listQ Y).length ⟨0, by omega, by omega, by simp only [go_sem, lf2St]⟩ ?_
 rintro y σ ⟨q, hq, rfl, rfl⟩
 refine goC 400 ?_
 by_cases hlt : q < (listQ Y).length
 ·have k7 : decide ((q : Int) < ((listQ Y).length : Int)) = true := decide_eq_true (by omega)
  have hin := hlen.2.2.2 _ (atQ_mem hlt)
  have hat := encQs_get (listQ Y) q hlt
  generalize hxq : atQ (listQ Y) q = t at hin hat
  have hff := lFind_c (listQ m) t (listQ_few hg)
  rw [(ix_spot hin).1] at hff
  have k8 : decide ((((listQ m).findIdx fun y => eqQ y t : Nat) : Int) < 0) = false := decide_eq_false (by omega)
  simp only [go_sem, hA, lf2St, encQs_length, k7, Int.toNat_natCast, hat, encQ, spR]
  refine ⟨⟨by omega, by omega⟩, ?_⟩
  refine goCall 400 hff rfl (by simp only [go_sem, avQ]) (by simp only [go_sem, hA]) ?_
  simp only [go_sem, hA, k8]
  exact ⟨by have := listQ_few gx; unfold inI64; omega, (listQ Y).length - (q + 1), by omega, q + 1, by omega, rfl, rfl⟩
 have k7 : decide ((q : Int) < ((listQ Y).length : Int)) = false := decide_eq_false (by omega)
 have k9 : decide (((listQ Y).length : Int) = ((listQ m).length : Int) - 1) = true := decide_eq_true (by omega)
 have hfl := hg.fine.fl
 have hlq := listQ_few hg
 cases hb : tcIn c k with
 | true =>
  have k8 : decide ((Y.fs.length : Int) = (m.fs.length : Int) + 1) = true := decide_eq_true (by have := hlen.2.1; rw [hb, if_pos rfl] at this; omega)
  simp only [go_sem, hA, lf2St, k7, encQs_length, encFs_length, k9, k8]
  refine ⟨by unfold inI64; omega, by unfold inI64; omega, ?_⟩
  refine goCall 400 awake37_c rfl rfl (by simp only [go_sem, hA]) ?_
  simp only [go_sem, hA, Tryz.results5]
 | false =>
  have k8 : decide ((Y.fs.length : Int) = (m.fs.length : Int) + 0) = true := decide_eq_true (by have := hlen.2.1; rw [hb, if_neg (by decide)] at this; omega)
  simp only [go_sem, hA, lf2St, k7, encQs_length, encFs_length, k9, k8]
  refine ⟨by unfold inI64; omega, by unfold inI64; omega, ?_⟩
  refine goCall 400 awake37_c rfl rfl (by simp only [go_sem, hA]) ?_
  simp only [go_sem, hA, Tryz.results5]
end
end Go.Proofs.YtnjedgpidalioaaGreatDoor
