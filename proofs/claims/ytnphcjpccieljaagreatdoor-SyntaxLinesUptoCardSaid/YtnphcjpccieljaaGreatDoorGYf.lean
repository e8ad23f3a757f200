/- Free of the program of layer 21, walked. checkDeclNames and checkDecl of the program of layer 21, walked. CheckSource of the program of layer 21, walked. Steps of a walk by trees that are not reckoned: a clone of strings, an array built and read, strings joined. -/
import Derived.Test.YtnphcjpccieljaaGreatDoorGYe
namespace Go.Proofs.YtnphcjpccieljaaGreatDoor
open Go Go.RowKit
def sfreeX (t : Ex) : List ByteArray := if checkX t = 0 then sortS (addE t [] []) else []
mutual
theorem addE_length : ∀ (t : Ex) (bd fs : List ByteArray), (addE t bd fs).length ≤ fs.length + nodesE t
  | .mk k n m i d s, bd, fs => by
    rw [addE, nodesE]
    have h := addL_length k n m 0 s bd fs
    split
    · split
      · omega
      · unfold addS
        split
        · omega
        · simp
    · omega
theorem addL_length (k : Int) (n m : ByteArray) : ∀ (i : Nat) (s : List Ex) (bd fs : List ByteArray), (addL k n m i s bd fs).length ≤ fs.length + nodesL s
  | i, [], bd, fs => by simp [addL]
  | i, e :: es, bd, fs => by
    rw [addL, nodesL]
    have h1 := addE_length e (boundB k n m i bd) fs
    have h2 := addL_length k n m (i + 1) es bd (addE e (boundB k n m i bd) fs)
    omega
end
/-- names in the order in which a walk through a map meets them -/
def metS (fs : List ByteArray) (seen : List Nat) : List ByteArray := seen.map fun j => atB fs j
theorem sortS_perm {a b : List ByteArray} (h : a.Perm b) : sortS a = sortS b := by
  unfold sortS
  congr 1
  have hp : ((a.map fun s => s.data.toList).mergeSort fun x y => decide (x ≤ y)).Perm ((b.map fun s => s.data.toList).mergeSort fun x y => decide (x ≤ y)) :=
    (List.mergeSort_perm _ _).trans ((h.map _).trans (List.mergeSort_perm _ _).symm)
  have hs : ∀ l : List (List UInt8), (l.mergeSort fun x y => decide (x ≤ y)).Pairwise fun x y => decide (x ≤ y) = true := fun l =>
    List.pairwise_mergeSort (fun a b c h1 h2 => by
      simp only [decide_eq_true_eq] at h1 h2 ⊢
      exact List.le_trans h1 h2) (fun a b => by
      simp only [Bool.or_eq_true, decide_eq_true_eq]
      exact List.le_total a b) l
  refine List.Perm.eq_of_pairwise (fun x y _ _ h1 h2 => ?_) (hs _) (hs _) hp
  simp only [decide_eq_true_eq] at h1 h2
  exact List.le_antisymm h1 h2
theorem metS_all {fs : List ByteArray} {seen : List Nat} (hn : seen.Nodup) (hl : ∀ j ∈ seen, j < fs.length) (ha : ∀ j, j < fs.length → j ∈ seen) : (metS fs seen).Perm fs := by
  have hp : seen.Perm (List.range fs.length) := (List.perm_ext_iff_of_nodup hn List.nodup_range).2 fun j => by
    rw [List.mem_range]
    exact ⟨hl j, ha j⟩
  have h1 : ((List.range fs.length).map fun j => atB fs j) = fs := by
    apply List.ext_getElem
    · simp
    · intro i h1 h2
      simp [atB, h2]
  have h2 := hp.map fun j => atB fs j
  rw [h1] at h2
  exact h2
abbrev frlSt (fs : List ByteArray) (seen : List Nat) : St := ⟨[(3, .mp 3000), (4, .grow 5002 (encS (metS fs seen))), (17, .box 6001 0)], [(3000, some (.map none (keysS fs) (truesS fs))), (6001, some (.iter 3000 (keysS fs).length seen))], [(5002, some ⟨1, 9, (metS fs seen).length⟩)]⟩
set_option maxRecDepth 100000 in
set_option maxHeartbeats 8000000 in
theorem sFree_c (t : Ex) (hb : nodesE t ≤ 524288) (hok : checkX t = 0 → shpE t = true) : Con Tryz.prog 22 [avE t] (.d (.sl (encS (sfreeX t)))) := by
  have cc := sCheckExpr_c t (by omega)
  refine con_of Tryz.func22 rfl (by decide +kernel) rfl (by simp only [AV.closed, closedL, avE, closedL_d, Bool.and_self]) (by simp [Tryz.ntmps22]) fun A hA => ?_
  rw [Tryz.ntmps22] at hA
  refine goC 300 ?_
  simp only [go_sem, hA, avE_eq]
  refine goCall 300 cc rfl (by simp only [go_sem, avE_eq]) (by simp only [go_sem, hA]) ?_
  by_cases h : checkX t = 0
  · have g0 : (decide ¬ checkX t = 0) = false := by simpa using h
    have hx : sfreeX t = sortS (addE t [] []) := if_pos h
    have ca := addFree_c (nodesE t + 1) t [] [] (by omega) (by simp; omega) (hok h)
    simp only [go_sem, hA, g0]
    refine goCallM 8 (args := [.tmp 10, .const (.slice none 0 0)]) (m := .tmp 11) ca rfl rfl rfl rfl rfl rfl (truesS_closed _) (by simp only [go_sem, avE_eq]; rfl) (by simp only [go_sem, hA]) ?_
    simp only [go_sem, hA]
    obtain ⟨fs, hfs⟩ : ∃ fs, addE t [] [] = fs := ⟨_, rfl⟩
    have hfl : fs.length ≤ 524288 := by rw [← hfs]; have := addE_length t [] []; simp at this; omega
    rw [hfs] at hx ⊢
    have hkl : (keysS fs).length = fs.length := by simp [keysS]
    refine goStep 0 (by simp only [go_sem]) (opOk_lenMap (kt := 9) (et := 4) rfl (by kernel_rfl) rfl rfl) (by simp only [go_sem, hA]) ?_
    show SemM _ _ _ _ _ _
    simp only [go_sem, hkl]
    have hby16 : Tryz.prog.bytesOf 9 = 16 := by kernel_rfl
    refine goStep 300 (by simp only [go_sem]) (opOk_makeCap (n := fs.length) (z := .string ⟨#[]⟩) (e := 9) (by rfl) (by kernel_rfl) (by kernel_rfl) (by kernel_rfl) (by rfl) (by rfl) (by rw [hby16]; omega) (by unfold maxLen; omega) (St.free_of (r := 5002) (by simp only [go_sem, mentL_rep]))) (by simp only [go_sem, hA]) ?_
    simp only [go_sem, hA, mentL_rep]
    refine satC_loop [3, 4, 17] [3000, 6001] [5002] (fun y σ => ∃ seen : List Nat, seen.Nodup ∧ (∀ j ∈ seen, j < fs.length) ∧ y = fs.length - seen.length ∧ σ = frlSt fs seen) fs.length ⟨[], List.nodup_nil, (fun j hj => by cases hj), rfl, by simp only [go_sem, frlSt]; rfl⟩ ?_
    rintro y σ ⟨seen, hnd, hlt, rfl, rfl⟩
    have hsl : seen.length ≤ fs.length := by
      have := List.Nodup.length_le_of_subset hnd (l₂ := List.range fs.length) (fun j hj => List.mem_range.2 (hlt j hj))
      simpa using this
    have hml : (metS fs seen).length = seen.length := by simp [metS]
    refine goC 300 ?_
    simp only [go_sem, frlSt]
    refine goNext 6 rfl rfl rfl rfl rfl (by simp only [go_sem, hA]) (fun hall => ?_) (fun j hj hj' hns => ?_)
    · simp only [go_sem, hA]
      refine goC 300 ?_
      simp only [go_sem, hA]
      refine goSort 4 (metS fs seen) 300 rfl rfl rfl rfl rfl rfl rfl (by omega) (by simp only [go_sem, hA]) (by decide) ?_
      rw [hx, ← sortS_perm (metS_all hnd hlt fun j hj => hall j (by rw [hkl]; exact hj))]
      simp only [go_sem, hA, Tryz.results22]
    · simp only [go_sem, hA]
      refine goC 8 ?_
      simp only [go_sem]
      refine goStep 300 (by simp only [go_sem]) (opOk_entry (j := j) (q := 6001) (r := 3000) (by rfl) (by rfl) (by rfl) (by rfl) (by rfl) hj hj') (by simp only [go_sem, hA]) ?_
      have hjl : j < fs.length := by rw [hkl] at hj; exact hj
      have hkj : (keysS fs)[j] = .string fs[j] := by simp [keysS]
      have htj : (truesS fs)[j] = .d (.raw (.bool true)) := by simp [truesS]
      rw [hkj, htj]
      simp only [go_sem, hA, encS_length, mentL_rep]
      have hmet : metS fs (seen ++ [j]) = metS fs seen ++ [fs[j]] := by simp [metS, atB, hjl]
      have hnd2 : (seen ++ [j]).Nodup := List.nodup_append.2 ⟨hnd, by simp, fun a ha b hb => by
        have : b = j := by simpa using hb
        subst this
        intro e; subst e; exact hns ha⟩
      have hlt2 : ∀ i ∈ seen ++ [j], i < fs.length := fun i hi => by
        rcases List.mem_append.1 hi with h | h
        · exact hlt i h
        · have : i = j := by simpa using h
          omega
      have hsl2 : (seen ++ [j]).length ≤ fs.length := by
        have := List.Nodup.length_le_of_subset hnd2 (l₂ := List.range fs.length) (fun j hj => List.mem_range.2 (hlt2 j hj))
        simpa using this
      have hsl3 : (seen ++ [j]).length = seen.length + 1 := by simp
      refine ⟨⟨encS_fit [fs[j]], encS_row _, by omega⟩, fs.length - (seen ++ [j]).length, by omega, seen ++ [j], hnd2, hlt2, rfl, ?_⟩
      rw [hmet, List.length_append, ← encS_append]
      rfl
  · have g0 : (decide ¬ checkX t = 0) = true := by simpa using h
    have hx : sfreeX t = [] := if_neg h
    simp only [go_sem, hA, g0, hx, Tryz.results22]
    rfl
end Go.Proofs.YtnphcjpccieljaaGreatDoor

namespace Go.Proofs.YtnphcjpccieljaaGreatDoor
open Go Go.RowKit
def namesX (l : List ByteArray) : Int := if ¬ l.length = 1 ∧ ¬ l.length = 3 then 1 else if l.any (badName l) then 6 else 0
abbrev dnSt (l : List ByteArray) (q : Nat) : St := ⟨[(0, .d (.sl (encS l))), (13, .d (.sl (encS l))), (14, .d (.raw (.int .i64 l.length))), (15, .d (.raw (.int .i64 q)))], [], []⟩
set_option maxRecDepth 100000 in
set_option maxHeartbeats 8000000 in
theorem declNames_c (l : List ByteArray) : Con Tryz.prog 77 [.d (.sl (encS l))] (.d (.raw (.int .i64 (namesX l)))) := by
  refine con_of Tryz.func77 rfl (by decide +kernel) rfl rfl (by simp [Tryz.ntmps77]) fun A hA => ?_
  rw [Tryz.ntmps77] at hA
  refine goC 400 ?_
  by_cases h5 : ¬ l.length = 1 ∧ ¬ l.length = 3
  · have g5 : (decide ¬ (l.length : Int) = 1) = true := decide_eq_true (by omega)
    have g6 : (decide ¬ (l.length : Int) = 3) = true := decide_eq_true (by omega)
    have he : namesX l = 1 := by unfold namesX; rw [if_pos h5]
    simp only [go_sem, hA, g5, g6, encS_length, he, Tryz.results77]
  have h6 : l.length = 1 ∨ (¬ l.length = 1 ∧ l.length = 3) := by omega
  have he : namesX l = if l.any (badName l) then 6 else 0 := by unfold namesX; rw [if_neg h5]
  rcases h6 with h6 | ⟨h6, h7⟩
  case' inl =>
    have g5 : (decide ¬ (l.length : Int) = 1) = false := decide_eq_false (by omega)
    have g7 : decide ((l.length : Int) = 1) = true := decide_eq_true (by omega)
    simp only [go_sem, hA, g5, undef, encS_length]
  case' inr =>
    have g5 : (decide ¬ (l.length : Int) = 1) = true := decide_eq_true (by omega)
    have g6 : (decide ¬ (l.length : Int) = 3) = false := decide_eq_false (by omega)
    have g7 : decide ((l.length : Int) = 1) = false := decide_eq_false (by omega)
    simp only [go_sem, hA, g5, g6, encS_length]
  all_goals
    refine satC_loop [0, 13, 14, 15] [] [] (fun y σ => ∃ q : Nat, q ≤ l.length ∧ y = l.length - q ∧ (l.take q).any (badName l) = false ∧ σ = dnSt l q) l.length ⟨0, by omega, by omega, rfl, by simp only [go_sem, dnSt]⟩ ?_
    rintro y σ ⟨q, hq, rfl, hf, rfl⟩
    refine goC 400 ?_
    by_cases hlt : q < l.length
    · have k1 : decide ((q : Int) < (l.length : Int)) = true := decide_eq_true (by omega)
      have hc := sName_c l[q]
      simp only [go_sem, hA, dnSt, encS_length, k1, Int.toNat_natCast, encS_at l q hlt]
      refine ⟨⟨by omega, by omega⟩, ?_⟩
      have hbad : badName l l[q] = true → namesX l = 6 := fun h => by
        rw [he, if_pos]
        rw [List.any_eq_true]
        exact ⟨_, List.getElem_mem hlt, h⟩
      have hgood : badName l l[q] = false → (l.take (q + 1)).any (badName l) = false := fun h => by
        rw [List.take_succ_eq_append_getElem hlt, List.any_append, hf]
        simp [h]
      have g7' : decide (l.length = 1) = decide ((l.length : Int) = 1) := decide_eq_decide.2 (by omega)
      obtain ⟨one, g8⟩ : ∃ one, decide ((l.length : Int) = 1) = one := ⟨_, rfl⟩
      rw [g8] at g7'
      cases hn : nameB l[q] with
      | true =>
        rw [hn] at hc
        have hb := hgood (by unfold badName; rw [hn]; rfl)
        refine goCall 300 hc rfl (by simp only [go_sem]) (by simp only [go_sem, hA]) ?_
        simp only [go_sem, hA, undef]
        exact ⟨by unfold inI64; omega, l.length - (q + 1), by omega, q + 1, by omega, rfl, hb, rfl⟩
      | false =>
        rw [hn] at hc
        refine goCall 300 hc rfl (by simp only [go_sem]) (by simp only [go_sem, hA]) ?_
        cases one with
        | true =>
          have hb := hbad (by unfold badName; rw [hn, g7']; rfl)
          simp only [go_sem, hA, encS_length, g8, hb, undef, Tryz.results77]
        | false =>
          by_cases hz : l[q] = ⟨#[]⟩
          · have hb := hgood (by unfold badName; rw [hn, g7', hz]; rfl)
            have k2 : decide (¬ l[q] = ⟨#[]⟩) = false := decide_eq_false (fun h => h hz)
            simp only [go_sem, hA, encS_length, g8, k2]
            exact ⟨by unfold inI64; omega, l.length - (q + 1), by omega, q + 1, by omega, rfl, hb, rfl⟩
          · have hb := hbad (by unfold badName; rw [hn, g7']; simp [hz])
            have k2 : decide (¬ l[q] = ⟨#[]⟩) = true := decide_eq_true hz
            simp only [go_sem, hA, encS_length, g8, k2, hb, Tryz.results77]
    · have k1 : decide ((q : Int) < (l.length : Int)) = false := decide_eq_false (by omega)
      obtain rfl : q = l.length := by omega
      rw [List.take_length] at hf
      rw [hf] at he
      simp only [go_sem, hA, dnSt, k1, he, Tryz.results77]
/-- why a declaration is not valid, as the program sees it -/
def sdeclX (x : Dc) : Int :=
  if x.id < 0 ∨ 999999 < x.id then 2 else if x.kind < 1 ∨ 3 < x.kind then 9 else if ¬ namesX x.names = 0 then namesX x.names else
  if ¬ checkX x.body = 0 then checkX x.body else if kindsE 5 x.body then 9 else 0
set_option maxRecDepth 100000 in
set_option maxHeartbeats 8000000 in
theorem sdecl_c (x : Dc) (hb : nodesE x.body ≤ 524288) : Con Tryz.prog 45 [avD x] (.d (.raw (.int .i64 (sdeclX x)))) := by
  have cn := declNames_c x.names
  have cc := sCheckExpr_c x.body (by omega)
  have ck := sHasRef_c x.body (by omega)
  refine con_of Tryz.func45 rfl (by decide +kernel) rfl rfl (by simp [Tryz.ntmps45]) fun A hA => ?_
  rw [Tryz.ntmps45] at hA
  refine goC 400 ?_
  by_cases h1 : x.id < 0
  · have g1 : decide (x.id < 0) = true := decide_eq_true h1
    have he : sdeclX x = 2 := by unfold sdeclX; rw [if_pos (.inl h1)]
    simp only [go_sem, hA, avD, g1, he, undef, Tryz.results45]
  have g1 : decide (x.id < 0) = false := decide_eq_false h1
  by_cases h2 : 999999 < x.id
  · have g2 : decide (999999 < x.id) = true := decide_eq_true h2
    have he : sdeclX x = 2 := by unfold sdeclX; rw [if_pos (.inr h2)]
    simp only [go_sem, hA, avD, g1, g2, he, Tryz.results45]
  have g2 : decide (999999 < x.id) = false := decide_eq_false h2
  have hs0 : sdeclX x = if x.kind < 1 ∨ 3 < x.kind then 9 else if ¬ namesX x.names = 0 then namesX x.names else if ¬ checkX x.body = 0 then checkX x.body else if kindsE 5 x.body then 9 else 0 := by unfold sdeclX; rw [if_neg (by omega)]
  by_cases h3 : x.kind < 1 ∨ 3 < x.kind
  · have g3 : (decide ¬ x.kind = 1) = true := decide_eq_true (by omega)
    have g4 : (decide ¬ x.kind = 2) = true := decide_eq_true (by omega)
    have g5 : (decide ¬ x.kind = 3) = true := decide_eq_true (by omega)
    rw [if_pos h3] at hs0
    simp only [go_sem, hA, avD, g1, g2, g3, g4, g5, hs0, Tryz.results45]
  rw [if_neg h3] at hs0
  have h4 : x.kind = 1 ∨ (¬ x.kind = 1 ∧ x.kind = 2) ∨ (¬ x.kind = 1 ∧ ¬ x.kind = 2 ∧ x.kind = 3) := by omega
  rcases h4 with h4 | ⟨h4, h4'⟩ | ⟨h4, h4', h4''⟩
  case' inl =>
    have g3 : (decide ¬ x.kind = 1) = false := decide_eq_false (by omega)
    simp only [go_sem, hA, avD, g1, g2, g3, undef]
  case' inr.inl =>
    have g3 : (decide ¬ x.kind = 1) = true := decide_eq_true (by omega)
    have g4 : (decide ¬ x.kind = 2) = false := decide_eq_false (by omega)
    simp only [go_sem, hA, avD, g1, g2, g3, g4, undef]
  case' inr.inr =>
    have g3 : (decide ¬ x.kind = 1) = true := decide_eq_true (by omega)
    have g4 : (decide ¬ x.kind = 2) = true := decide_eq_true (by omega)
    have g5 : (decide ¬ x.kind = 3) = false := decide_eq_false (by omega)
    simp only [go_sem, hA, avD, g1, g2, g3, g4, g5]
  all_goals
    refine goCall 300 cn rfl (by simp only [go_sem]) (by simp only [go_sem, hA]) ?_
    by_cases hn : namesX x.names = 0
    · rw [if_neg (fun h => h hn)] at hs0
      have k1 : (decide ¬ namesX x.names = 0) = false := decide_eq_false (fun h => h hn)
      simp only [go_sem, hA, k1]
      refine goCall 300 cc rfl (by simp only [go_sem, avE_eq]) (by simp only [go_sem, hA]) ?_
      by_cases hc : checkX x.body = 0
      · rw [if_neg (fun h => h hc)] at hs0
        have k2 : (decide ¬ checkX x.body = 0) = false := decide_eq_false (fun h => h hc)
        simp only [go_sem, hA, k2]
        refine goCall 300 ck rfl (by simp only [go_sem, avE_eq]) (by simp only [go_sem, hA]) ?_
        cases hk : kindsE 5 x.body with
        | true =>
          rw [hk, if_pos rfl] at hs0
          simp only [go_sem, hA, hs0, Tryz.results45]
        | false =>
          rw [hk, if_neg (by decide)] at hs0
          simp only [go_sem, hA, hs0, Tryz.results45]
      · rw [if_pos hc] at hs0
        have k2 : (decide ¬ checkX x.body = 0) = true := decide_eq_true hc
        simp only [go_sem, hA, k2, hs0, Tryz.results45]
    · rw [if_pos hn] at hs0
      have k1 : (decide ¬ namesX x.names = 0) = true := decide_eq_true hn
      simp only [go_sem, hA, k1, hs0, Tryz.results45]
end Go.Proofs.YtnphcjpccieljaaGreatDoor

namespace Go.Proofs.YtnphcjpccieljaaGreatDoor
open Go Go.RowKit
/-- the first that is not 0 -/
def firstN (f : Nat → Int) : Nat → Int
  | 0 => 0
  | n + 1 => if firstN f n = 0 then f n else firstN f n
theorem firstN_step {f : Nat → Int} {q : Nat} (h : firstN f q = 0) (h1 : f q = 0) : firstN f (q + 1) = 0 := by rw [firstN, if_pos h, h1]
theorem firstN_hit {f : Nat → Int} {q n : Nat} (h : firstN f q = 0) (hn : q < n) (h1 : ¬ f q = 0) : firstN f n = f q := by
  induction n with
  | zero => omega
  | succ n ih =>
    rw [firstN]
    by_cases e : q = n
    · subst e; rw [if_pos h]
    · have := ih (by omega)
      rw [this, if_neg h1]
theorem firstN_congr {f g : Nat → Int} : ∀ n : Nat, (∀ i, i < n → f i = g i) → firstN f n = firstN g n
  | 0, _ => rfl
  | n + 1, h => by rw [firstN, firstN, firstN_congr n (fun i hi => h i (by omega)), h n (by omega)]
structure Sr where
  uses : List ByteArray
  decls : List Dc
def encDs (l : List Dc) : List (List D) := l.map encD
def avS (x : Sr) : AV := .agg [.d (.sl (encS x.uses)), .d (.sl (encDs x.decls))]
theorem encDs_length (l : List Dc) : (encDs l).length = l.length := by simp [encDs]
theorem encDs_at (l : List Dc) (i : Nat) (h : i < l.length) : (encDs l).getD i [] = encD l[i] := by
  simp [encDs, List.getD_eq_getElem?_getD, h]
/-- why a use is not valid -/
def useE (l : List ByteArray) (q : Nat) : Int := if labelL (atB l q).data.toList then (if 0 < q ∧ ltS (atB l (q - 1)) (atB l q) = false then 10 else 0) else 6
def noDc : Dc := ⟨0, 0, false, [], false, .mk 0 ⟨#[]⟩ ⟨#[]⟩ 0 0 []⟩
def atD (l : List Dc) (i : Nat) : Dc := l.getD i noDc
theorem atD_get (l : List Dc) (i : Nat) (h : i < l.length) : atD l i = l[i] := by simp [atD, List.getD_eq_getElem?_getD, h]
theorem atB_get (l : List ByteArray) (i : Nat) (h : i < l.length) : atB l i = l[i] := by simp [atB, List.getD_eq_getElem?_getD, h]
/-- the names that stand alone -/
def oneOf (d : Dc) : Option ByteArray := if d.names.length = 1 then some (atB d.names 0) else none
def ones (l : List Dc) : List ByteArray := l.filterMap oneOf
/-- out of order -/
def misplaced (l : List Dc) (q : Nat) : Bool := decide (0 < q) && decide (¬ (atD l q).id = 0) && (decide ((atD l (q - 1)).id = 0) || decide ((atD l q).id ≤ (atD l (q - 1)).id))
def declE (e : Dc → Int) (l : List Dc) (q : Nat) : Int :=
  if ¬ e (atD l q) = 0 then e (atD l q) else if misplaced l q then 10 else if (atD l q).names.length = 1 ∧ hasS (ones (l.take q)) (atB (atD l q).names 0) then 7 else 0
def srcX (e : Dc → Int) (x : Sr) : Int :=
  if 20 < x.uses.length then 4 else if ¬ firstN (useE x.uses) x.uses.length = 0 then firstN (useE x.uses) x.uses.length else if 100 < x.decls.length then 4 else firstN (declE e x.decls) x.decls.length
theorem ones_succ (l : List Dc) (q : Nat) (h : q < l.length) : ones (l.take (q + 1)) = ones (l.take q) ++ (if (atD l q).names.length = 1 then [atB (atD l q).names 0] else []) := by
  rw [List.take_succ_eq_append_getElem h, ones, List.filterMap_append, atD_get l q h]
  congr 1
  simp only [List.filterMap_cons, List.filterMap_nil, oneOf]
  split <;> rename_i h1 <;> split at h1 <;> simp_all
theorem ones_length (l : List Dc) : (ones l).length ≤ l.length := List.length_filterMap_le _ _
theorem keys_snoc (a : List ByteArray) (n : ByteArray) : keysS (a ++ [n]) = keysS a ++ [.string n] := by simp [keysS]
theorem trues_snoc (a : List ByteArray) (n : ByteArray) : truesS (a ++ [n]) = truesS a ++ [.d (.raw (.bool true))] := by
  simp only [truesS, List.length_append, List.length_cons, List.length_nil, Nat.zero_add, List.replicate_succ']
theorem find_none {fs : List ByteArray} {s : ByteArray} (h : hasS fs s = false) : findIx (.string s) (keysS fs) = none := by
  have := findIx_keys s fs
  rw [h] at this
  simpa using this
theorem find_some {fs : List ByteArray} {s : ByteArray} (h : hasS fs s = true) : ∃ j, findIx (.string s) (keysS fs) = some j ∧ (truesS fs)[j]? = some (.d (.raw (.bool true))) := by
  have h1 := findIx_keys s fs
  rw [h] at h1
  obtain ⟨j, hj⟩ := Option.isSome_iff_exists.1 h1
  refine ⟨j, hj, ?_⟩
  have := findIx_lt s fs j hj
  simp [truesS, this]
abbrev cs1St (x : Sr) (q : Nat) : St := ⟨[(1, .box 0 0), (14, .d (.sl (encS x.uses))), (15, .d (.raw (.int .i64 x.uses.length))), (16, .d (.raw (.int .i64 q)))], [(0, some (.cell 25 [.d (.sl (encS x.uses)), .d (.sl (encDs x.decls))]))], []⟩
abbrev cs2St (x : Sr) (q : Nat) : St := ⟨[(1, .box 0 0), (5, .mp 13000), (43, .d (.sl (encDs x.decls))), (44, .d (.raw (.int .i64 x.decls.length))), (45, .d (.raw (.int .i64 q)))], [(0, some (.cell 25 [.d (.sl (encS x.uses)), .d (.sl (encDs x.decls))])), (13000, some (.map none (keysS (ones (x.decls.take q))) (truesS (ones (x.decls.take q)))))], []⟩
set_option maxRecDepth 100000 in
set_option maxHeartbeats 16000000 in
theorem ssource_c (x : Sr) (hb : ∀ d ∈ x.decls, nodesE d.body ≤ 524288) : Con Tryz.prog 15 [avS x] (.d (.raw (.int .i64 (srcX sdeclX x)))) := by
  refine con_of Tryz.func15 rfl (by decide +kernel) rfl rfl (by simp [Tryz.ntmps15]) fun A hA => ?_
  rw [Tryz.ntmps15] at hA
  refine goC 400 ?_
  by_cases h1 : 20 < x.uses.length
  · have g1 : decide ((20 : Int) < (x.uses.length : Int)) = true := decide_eq_true (by omega)
    have he : srcX sdeclX x = 4 := by unfold srcX; rw [if_pos h1]
    simp only [go_sem, hA, avS, encS_length, g1, he, Tryz.results15]
  have g1 : decide ((20 : Int) < (x.uses.length : Int)) = false := decide_eq_false (by omega)
  have hs0 : srcX sdeclX x = if ¬ firstN (useE x.uses) x.uses.length = 0 then firstN (useE x.uses) x.uses.length else if 100 < x.decls.length then 4 else firstN (declE sdeclX x.decls) x.decls.length := by unfold srcX; rw [if_neg h1]
  simp only [go_sem, hA, avS, encS_length, g1]
  refine satC_loop [1, 14, 15, 16] [0] [] (fun y σ => ∃ q : Nat, q ≤ x.uses.length ∧ y = x.uses.length - q ∧ firstN (useE x.uses) q = 0 ∧ σ = cs1St x q) x.uses.length ⟨0, by omega, by omega, rfl, by simp only [go_sem, cs1St]⟩ ?_
  rintro y σ ⟨q, hq, rfl, hf, rfl⟩
  refine goC 400 ?_
  by_cases hlt : q < x.uses.length
  · have k1 : decide ((q : Int) < (x.uses.length : Int)) = true := decide_eq_true (by omega)
    have hc := sLabel_c x.uses[q]
    have hat := atB_get x.uses q hlt
    have hhit : ∀ e : Int, ¬ e = 0 → useE x.uses q = e → srcX sdeclX x = e := fun e h0 h => by
      have h2 := firstN_hit (n := x.uses.length) hf hlt (by rw [h]; exact h0)
      rw [hs0, h2, h, if_pos h0]
    simp only [go_sem, hA, cs1St, encS_length, k1, Int.toNat_natCast, encS_at x.uses q hlt]
    refine ⟨⟨by omega, by omega⟩, ?_⟩
    refine goCall 300 hc rfl (by simp only [go_sem]) (by simp only [go_sem, hA]) ?_
    cases hl : labelL x.uses[q].data.toList with
    | false =>
      have hr := hhit 6 (by decide) (by unfold useE; rw [hat, hl]; rfl)
      simp only [go_sem, hA, hr, Tryz.results15]
    | true =>
      have hu : useE x.uses q = if 0 < q ∧ ltS (atB x.uses (q - 1)) (atB x.uses q) = false then 10 else 0 := by unfold useE; rw [hat, hl]; rfl
      by_cases hq0 : 0 < q
      · have k2 : decide ((0 : Int) < (q : Int)) = true := decide_eq_true (by omega)
        have hq1 : ((q : Int) - 1).toNat = q - 1 := by omega
        have hat1 := atB_get x.uses (q - 1) (by omega)
        have hin : inI64 ((q : Int) - 1) := by unfold inI64; omega
        have hw : IntKind.i64.wrap ((q : Int) - 1) = (q : Int) - 1 := wrapI64 hin
        cases hls : ltS x.uses[q - 1] x.uses[q] with
        | false =>
          have hls' : Op.bytesLess x.uses[q - 1].data.toList x.uses[q].data.toList = false := hls
          have hr := hhit 10 (by decide) (by rw [hu, hat, hat1, if_pos ⟨hq0, hls⟩])
          simp only [go_sem, hA, k2, encS_length, hq1, encS_at x.uses (q - 1) (by omega), hls', hr, Tryz.results15]
          exact ⟨hin, by omega, by omega⟩
        | true =>
          have hls' : Op.bytesLess x.uses[q - 1].data.toList x.uses[q].data.toList = true := hls
          have hz := firstN_step hf (by rw [hu, hat, hat1, hls, if_neg (by simp)])
          simp only [go_sem, hA, k2, encS_length, hq1, encS_at x.uses (q - 1) (by omega), hls']
          exact ⟨hin, ⟨by omega, by omega⟩, by unfold inI64; omega, x.uses.length - (q + 1), by omega, q + 1, by omega, rfl, hz, rfl⟩
      · have k2 : decide ((0 : Int) < (q : Int)) = false := decide_eq_false (by omega)
        have hz := firstN_step hf (by rw [hu, if_neg (fun h => hq0 h.1)])
        simp only [go_sem, hA, k2, undef]
        exact ⟨by unfold inI64; omega, x.uses.length - (q + 1), by omega, q + 1, by omega, rfl, hz, rfl⟩
  have k1 : decide ((q : Int) < (x.uses.length : Int)) = false := decide_eq_false (by omega)
  obtain rfl : q = x.uses.length := by omega
  rw [hf, if_neg (fun h => h rfl)] at hs0
  by_cases h2 : 100 < x.decls.length
  · have g2 : decide ((100 : Int) < (x.decls.length : Int)) = true := decide_eq_true (by omega)
    rw [if_pos h2] at hs0
    simp only [go_sem, hA, cs1St, encDs_length, k1, g2, hs0, Tryz.results15]
  have g2 : decide ((100 : Int) < (x.decls.length : Int)) = false := decide_eq_false (by omega)
  rw [if_neg h2] at hs0
  simp only [go_sem, hA, cs1St, encDs_length, k1, g2]
  refine satC_loop [1, 5, 43, 44, 45] [0, 13000] [] (fun y σ => ∃ q : Nat, q ≤ x.decls.length ∧ y = x.decls.length - q ∧ firstN (declE sdeclX x.decls) q = 0 ∧ σ = cs2St x q) x.decls.length ⟨0, by omega, by omega, rfl, by simp only [go_sem, cs2St]; rfl⟩ ?_
  rintro y σ ⟨q, hq, rfl, hf2, rfl⟩
  refine goC 400 ?_
  by_cases hlt : q < x.decls.length
  case neg =>
    have k1 : decide ((q : Int) < (x.decls.length : Int)) = false := decide_eq_false (by omega)
    obtain rfl : q = x.decls.length := by omega
    rw [hf2] at hs0
    simp only [go_sem, hA, cs2St, k1, hs0, Tryz.results15]
  have k1 : decide ((q : Int) < (x.decls.length : Int)) = true := decide_eq_true (by omega)
  have hat := atD_get x.decls q hlt
  have hlen : x.decls.length ≤ 100 := by omega
  obtain ⟨d, hd⟩ : ∃ d, x.decls[q] = d := ⟨_, rfl⟩
  rw [hd] at hat
  have hc := sdecl_c d (hb d (by rw [← hd]; exact List.getElem_mem hlt))
  have hhit : ∀ e : Int, ¬ e = 0 → declE sdeclX x.decls q = e → srcX sdeclX x = e := fun e h0 h => by
    have h2 := firstN_hit (n := x.decls.length) hf2 hlt (by rw [h]; exact h0)
    rw [hs0, h2, h]
  simp only [go_sem, hA, cs2St, encDs_length, k1, Int.toNat_natCast, encDs_at x.decls q hlt, hd, encD, mentL_rep]
  refine ⟨⟨by omega, by omega⟩, ?_⟩
  refine goCall 300 hc rfl (by simp only [go_sem, avD]) (by simp only [go_sem, hA]) ?_
  by_cases he : sdeclX d = 0
  case neg =>
    have k2 : (decide ¬ sdeclX d = 0) = true := decide_eq_true he
    have hr := hhit (sdeclX d) he (by unfold declE; rw [hat, if_pos he])
    simp only [go_sem, hA, k2, hr, Tryz.results15]
  have k2 : (decide ¬ sdeclX d = 0) = false := decide_eq_false (fun h => h he)
  have hde : declE sdeclX x.decls q = if misplaced x.decls q then 10 else if d.names.length = 1 ∧ hasS (ones (x.decls.take q)) (atB d.names 0) then 7 else 0 := by unfold declE; rw [hat, if_neg (fun h => h he)]
  have hq1 : ((q : Int) - 1).toNat = q - 1 := by omega
  have hin : inI64 ((q : Int) - 1) := by unfold inI64; omega
  have hw : IntKind.i64.wrap ((q : Int) - 1) = (q : Int) - 1 := wrapI64 hin
  cases hm : misplaced x.decls q with
  | true =>
    have hm' := hm
    simp only [misplaced, hat, Bool.and_eq_true, Bool.or_eq_true, decide_eq_true_eq] at hm'
    obtain ⟨⟨hq0, hid⟩, hor⟩ := hm'
    have hr := hhit 10 (by decide) (by rw [hde, hm, if_pos rfl])
    have k3 : (decide ¬ d.id = 0) = true := decide_eq_true hid
    have k4 : decide ((0 : Int) < (q : Int)) = true := decide_eq_true (by omega)
    have hat1 := atD_get x.decls (q - 1) (by omega)
    rw [hat1] at hor
    by_cases hp : x.decls[q - 1].id = 0
    · have k5 : decide (x.decls[q - 1].id = 0) = true := decide_eq_true hp
      simp only [go_sem, hA, k2, k3, k4, encDs_length, hq1, encDs_at x.decls (q - 1) (by omega), encD, k5, undef, mixed, hr, Tryz.results15]
      exact ⟨hin, ⟨by omega, by omega⟩, by show chk _ _ _ = true; kernel_rfl⟩
    · have k5 : decide (x.decls[q - 1].id = 0) = false := decide_eq_false hp
      have k6 : decide (d.id ≤ x.decls[q - 1].id) = true := decide_eq_true (by rcases hor with h | h; exact absurd h hp; exact h)
      simp only [go_sem, hA, k2, k3, k4, encDs_length, hq1, encDs_at x.decls (q - 1) (by omega), encD, k5, k6, mixed, hr, Tryz.results15]
      exact ⟨hin, ⟨by omega, by omega⟩, hin, ⟨by omega, by omega⟩, by show chk _ _ _ = true; kernel_rfl⟩
  | false =>
    rw [hm, if_neg (by decide)] at hde
    have hm' : d.id = 0 ∨ (¬ d.id = 0 ∧ ¬ 0 < q) ∨ (¬ d.id = 0 ∧ 0 < q ∧ ¬ (atD x.decls (q - 1)).id = 0 ∧ ¬ d.id ≤ (atD x.decls (q - 1)).id) := by
      by_cases e1 : d.id = 0
      · exact .inl e1
      by_cases e2 : 0 < q
      · refine .inr (.inr ⟨e1, e2, ?_⟩)
        simp only [misplaced, hat, decide_eq_true e2, decide_eq_true e1, Bool.true_and, Bool.or_eq_false_iff, decide_eq_false_iff_not] at hm
        exact hm
      · exact .inr (.inl ⟨e1, e2⟩)
    rcases hm' with e1 | ⟨e1, e2⟩ | ⟨e1, e2, e3, e4⟩
    case' inl =>
      have k3 : (decide ¬ d.id = 0) = false := decide_eq_false (fun h => h e1)
      simp only [go_sem, hA, k2, k3, undef, mixed, encS_length]
    case' inr.inl =>
      have k3 : (decide ¬ d.id = 0) = true := decide_eq_true e1
      have k4 : decide ((0 : Int) < (q : Int)) = false := decide_eq_false (by omega)
      simp only [go_sem, hA, k2, k3, k4, undef, mixed, encS_length]
    case' inr.inr =>
      have k3 : (decide ¬ d.id = 0) = true := decide_eq_true e1
      have k4 : decide ((0 : Int) < (q : Int)) = true := decide_eq_true (by omega)
      have hat1 := atD_get x.decls (q - 1) (by omega)
      rw [hat1] at e3 e4
      have k5 : decide (x.decls[q - 1].id = 0) = false := decide_eq_false e3
      have k6 : decide (d.id ≤ x.decls[q - 1].id) = false := decide_eq_false e4
      simp only [go_sem, hA, k2, k3, k4, encDs_length, hq1, encDs_at x.decls (q - 1) (by omega), encD, k5, k6, mixed, encS_length]
      refine ⟨hin, ⟨by omega, by omega⟩, hin, ⟨by omega, by omega⟩, ?_⟩
    all_goals
      refine ⟨by show chk _ _ _ = true; kernel_rfl, ?_⟩
      by_cases hl : d.names.length = 1
      · have k7 : decide ((d.names.length : Int) = 1) = true := decide_eq_true (by omega)
        cases hh : hasS (ones (x.decls.take q)) (atB d.names 0) with
        | true =>
          obtain ⟨j, hj1, hj2⟩ := find_some hh
          have hr := hhit 7 (by decide) (by rw [hde, if_pos ⟨hl, hh⟩])
          simp only [go_sem, hA, k7, encS_length, encS_atB d.names 0 (by omega), hj1, hj2, hr, Tryz.results15]
          exact ⟨by omega, keysS_fit _⟩
        | false =>
          have hj := find_none hh
          have hz := firstN_step hf2 (by rw [hde, if_neg (fun h => by rw [hh] at h; exact Bool.noConfusion h.2)])
          have hone := ones_succ x.decls q hlt
          rw [hat, if_pos hl] at hone
          simp only [go_sem, hA, k7, encS_length, encS_atB d.names 0 (by omega), hj, mentL_rep]
          refine ⟨by omega, keysS_fit _, by omega, keysS_fit _, by unfold inI64; omega, x.decls.length - (q + 1), by omega, q + 1, by omega, rfl, hz, ?_⟩
          rw [hone, keys_snoc, trues_snoc]
          rfl
      · have k7 : decide ((d.names.length : Int) = 1) = false := decide_eq_false (by omega)
        have hz := firstN_step hf2 (by rw [hde, if_neg (fun h => hl h.1)])
        have hone := ones_succ x.decls q hlt
        rw [hat, if_neg hl, List.append_nil] at hone
        simp only [go_sem, hA, k7]
        exact ⟨by unfold inI64; omega, x.decls.length - (q + 1), by omega, q + 1, by omega, rfl, hz, by rw [hone]; rfl⟩
end Go.Proofs.YtnphcjpccieljaaGreatDoor

namespace Go.Proofs.YtnphcjpccieljaaGreatDoor
open Go Go.RowKit
section
variable {P : Program} {A : Base P} {σ : St} {g : Gh} {a : Act} {w : World}
theorem opOk_buildArr {o : Oper} {t e : TypeId} {n : Nat} {ps : Array (Nat × Operand)} {z : Value} {cs : List AV} (ho : o.op = .build t ps) (ht : P.underlying t = some (.array n e)) (hz : zeroOf P t = some z) (h0 : P.cellsOf e ≠ 0)
    (h : fillA (fun i => some (i * P.cellsOf e, P.cellsOf e)) (z.cells.toList.map ofCell) (ps.toList.map fun x => (x.1, σ.eval x.2)) = some cs) : OpOk P A o σ σ (.agg cs) := by
  refine opOk_run fun g a w hk => ?_
  obtain ⟨i, hi, hzi⟩ : ∃ i, P.info? t = some i ∧ i.zero = some z := by
    unfold zeroOf at hz
    cases hi : P.info? t with
    | none => simp [hi] at hz
    | some i => exact ⟨i, rfl, by simpa [hi] using hz⟩
  obtain ⟨arr', f1, f2, f3⟩ := fillA_ok (w := w) (g := g) (tk := σ.tk) _ (ps.toList.map fun x => (x.1, a.eval x.2)) _ z.cells _ (by simp) (fun i hi hv => by
    simp only [List.getElem_map]
    exact ⟨trivial, hk.eval _⟩) (by simp) (fun i hi hv => by
    rw [List.getElem_map]
    exact has_ofCell _ _ _ _) h
  refine ⟨g, _, w, ?_, hk, .agg cs arr'.toList (by simpa using f2) (fun i hi hv => f3 i hi (by simpa using hv))⟩
  have hps : (ps.map fun (x : Nat × Operand) => (x.1, a.eval x.2)).toList = ps.toList.map fun x => (x.1, a.eval x.2) := by simp
  simp only [execOp, ho, Instr.build, Sem.run_bind, zeroValue, typeInfo, run_program, hi, hzi, Sem.run_pure, Result.andThen_ok, run_underlying ht, run_sizeOf h0, hps, f1]
theorem opOk_indexArr {o : Oper} {t e : TypeId} {n : Nat} {p q : Operand} {k : IntKind} {i : Int} {cs : List AV} {x : AV} (ho : o.op = .index t p q) (ht : P.underlying t = some (.array n e)) (hp : σ.eval p = .agg cs) (hq : σ.eval q = .d (.raw (.int k i))) (h0 : P.cellsOf e = 1) (ha : aggOf P e = some false) (h1 : 0 ≤ i) (h2 : i < n)
    (hx : cs[i.toNat]? = some x) : OpOk P A o σ σ x :=
  opOk_pure fun g a w hk => by
    have e1 := hk.eval p
    have e2 := hk.eval q
    rw [hp] at e1
    rw [hq] at e2
    obtain ⟨vs, hv, hl, hh⟩ := e1.agg_eq
    obtain ⟨h3, rfl⟩ := List.getElem?_eq_some_iff.1 hx
    have hlt : i.toNat < vs.length := by omega
    obtain ⟨h4, j, hj⟩ := run_isAgg (P := P) ha w
    refine ⟨vs[i.toNat], ?_, hh _ h3 hlt⟩
    have hso := run_sizeOf (P := P) (t := e) (by rw [h0]; decide) w
    rw [h0] at hso
    simp only [execOp, ho, hv, e2.raw_eq, Instr.index, asIntOf, Sem.run_bind, Sem.run_pure, run_underlying ht, Result.andThen_ok, h1, h2, and_self, if_pos, hso, Nat.mul_one, part, h4]
    simp [hlt]
/-- what holds between two parts -/
theorem goMid (n : Nat) (ts bs ks : List Nat) (I : St → Prop) {c rest : Code} {s : List Itm} {Q : Exit → St → Prop} (h1 : go P A n (.code c) (.inv (fun σ' => I (σ'.keep ts bs ks)) :: s) σ Q) (h2 : ∀ σ', I σ' → SatC P A rest σ' (stk P A s Q)) : SatC P A (.seq c rest) σ (stk P A s Q) := by
  refine satC_seq ((go_ok n _ _ _ _ h1).mono fun e σ' hq => ?_)
  cases e with
  | normal => exact satC_keep ts bs ks (h2 _ hq)
  | _ => exact hq
end
variable {A : Base Tryz.prog} {σ : St} {g : Gh} {a : Act} {w : World}
theorem opOk_clone {o : Oper} {c : Call} {p m : Operand} {me : Nat} {l : List ByteArray} (ho : o.op = .call c) (hp : c.callee = .value p) (hf : σ.eval p = .fn 70 []) (hargs : c.args.toList = [m]) (hm : σ.eval m = .d (.sl (encS l))) (h0 : 0 < l.length) (hlen : l.length * 16 ≤ 140737488355328) (hfree : σ.free me) :
    OpOk Tryz.prog A o σ (σ.setBlk me (some (.row 1 9 (encS l)))) (.own me l.length) := by
  intro g a w hk K Q hK
  have hr := run_call2 hk ho hp hf ⟨_, Tryz.func70, by decide +kernel, rfl⟩
  have hme := hk.eval m
  rw [hm] at hme
  unfold Oper.wp
  rw [hr, hargs]
  simp only [Oper.upon, List.map_cons, List.map_nil]
  rcases reads_strs hme.sl with ⟨e, _⟩ | ⟨_, b, off, cap, hv, hcap, _, hc⟩
  · rw [e] at h0; simp at h0
  rw [hv]
  refine (Tryz.slices_Clone_string b off l.length cap l w (Nat.le_refl _) hlen hc).mono ?_
  rintro e w' ⟨v', rfl, hown, hne, hbel⟩
  obtain ⟨hk1, _⟩ := hk.grown hbel g.F (fun _ _ h => h) (fun _ _ h => .inl h)
  rcases hown.2 with ⟨e, _⟩ | ⟨gb, cap2, cur, hv2, hgB, hgh, hcap2, _, hsz, htake⟩
  · exact absurd e hne
  have hb2 : BlkAt { g with F := g.F } σ.tk w' gb (.row 1 9 (encS l)) := ⟨cur.toList, by rw [Array.toArray_toList]; exact hgh, fun i hi => encS_row _ _ (List.getElem_mem hi), fun i hi j hj => by
    have hil : i < l.length := by rw [encS_length] at hi; exact hi
    have hrow : (encS l)[i] = [.raw (.string l[i])] := by simp [encS]
    have hj0 : j = 0 := by rw [hrow] at hj; simpa using hj
    subst hj0
    refine ⟨.string l[i], ?_, by simp only [hrow, List.getElem_cons_zero]; exact .raw _⟩
    have h1 : (cur.toList.take (l.length * 1))[i]? = some (.string l[i]) := by rw [htake]; simp [hil]
    rw [List.getElem?_take_of_lt (by omega)] at h1
    rw [Nat.mul_one, Nat.add_zero]
    exact h1⟩
  have hB := hk.hB
  have hk2 := hk1.addBlk hfree (by omega) hb2 rfl (fun o hf => by have := hk.Fb gb o hf; omega) (fun r' k' hr' e => by have := (hk.blk r' k' hr').2.lt; have e : g.m r' = gb := e; omega) (fun r' k' hr' e => by
    obtain ⟨xs, hx⟩ := hk.tok r' k' hr'
    rcases hx.2 with ⟨h1, _⟩ | ⟨gb3, cap3, cur3, h1, _, h3, _⟩
    · have e : (g.tv r').ownBlock = some gb := e
      rw [h1] at e; cases e
    · have e : (g.tv r').ownBlock = some gb := e
      rw [h1] at e
      injection e with e
      have e : gb3 = gb := e
      have := (Array.getElem?_eq_some_iff.1 h3).1
      omega)
  refine hK _ _ _ hk2 ?_
  rw [hv2]
  have := Has.own (g := { ({ g with F := g.F } : Gh) with m := updN g.m me gb }) (tk := (σ.setBlk me (some (.row 1 9 (encS l)))).tk) (w := w') me l.length cap2 hcap2
  simp only [updN_same] at this
  exact this
theorem goClone (n : Nat) {all : List Oper} {f : Option FuncId} {o : Oper} {rest : List Oper} {i base : Nat} {st : List Itm} {Q : Exit → St → Prop} {c : Call} {p m : Operand} {me : Nat} {l : List ByteArray} (ho : o.op = .call c) (hp : c.callee = .value p) (hf : σ.eval p = .fn 70 []) (hargs : c.args.toList = [m]) (hm : σ.eval m = .d (.sl (encS l))) (h0 : 0 < l.length) (hlen : l.length * 16 ≤ 140737488355328) (hfree : σ.free me) (hd : dstOk A.N o = true)
    (hr : go Tryz.prog A n (.ops all rest (i + 1) base) st ((σ.setBlk me (some (.row 1 9 (encS l)))).put o.dst (.own me l.length)) Q) : SemM Tryz.prog A (.exe f all o rest i base) st σ Q :=
  satE_op (opOk_clone ho hp hf hargs hm h0 hlen hfree) hd (go_ok n _ _ _ _ hr)
end Go.Proofs.YtnphcjpccieljaaGreatDoor
