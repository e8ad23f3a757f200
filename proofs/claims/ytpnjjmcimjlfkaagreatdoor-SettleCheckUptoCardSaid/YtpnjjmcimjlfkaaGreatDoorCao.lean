/- Texts of this proof, part 15: what the proof uses of them. -/
import Derived.Test.YtpnjjmcimjlfkaaGreatDoorCan
import Derived.Test.YtpnjjmcimjlfkaaGreatDoorCam
import Derived.WalkKit
set_option maxRecDepth 100000
set_option maxHeartbeats 64000000
namespace Go.Proofs.YtpnjjmcimjlfkaaGreatDoor
section
open Go Go.RowKit
def zdT (t : Ex) : List ByteArray := if zE t = 0 then zcp (zbL t [] []) else []
mutual
theorem zkN : ∀ (t : Ex) (bd fs : List ByteArray), (zbL t bd fs).length ≤ fs.length + zb t
 | .mk k n m i d s, bd, fs => by
  rw [zbL, zb]
  have h := zkL k n m 0 s bd fs
  split
  ·split
   ·omega
   ·unfold zeh
    split
    ·omega
    ·simp
  ·omega
theorem zkL (k : Int) (n m : ByteArray) : ∀ (i : Nat) (s : List Ex) (bd fs : List ByteArray), (zdL k n m i s bd fs).length ≤ fs.length + nodesL s
 | i, [], bd, fs => by simp [zdL]
 | i, e :: es, bd, fs => by
  rw [zdL, nodesL]
  have h1 := zkN e (zag k n m i bd) fs
  have h2 := zkL k n m (i + 1) es bd (zbL e (zag k n m i bd) fs)
  omega
end
def zqt (fs : List ByteArray) (seen : List Nat) : List ByteArray := seen.map fun j => atB fs j
theorem zlI {a b : List ByteArray} (h : a.Perm b) : zcp a = zcp b := by
 unfold zcp
 congr 1
 have hp : ((a.map fun s => s.data.toList).mergeSort fun x y => decide (x ≤ y)).Perm ((b.map fun s => s.data.toList).mergeSort fun x y => decide (x ≤ y)) :=
  (List.mergeSort_perm _ _).trans ((h.map _).trans (List.mergeSort_perm _ _).symm)
 have hs : ∀ l : List (List UInt8), (l.mergeSort fun x y => decide (x ≤ y)).Pairwise fun x y => decide (x ≤ y) = true := fun l =>
  List.pairwise_mergeSort (fun a b c h1 h2 => by
   simp only [decide_eq_true_eq] at h1 h2 ⊢
   exact List.le_trans h1 h2) (fun a b => by
   simp only [Bool.or_eq_true, decide_eq_true_eq]
   exact List.le_total a b) l
 refine List.Perm.eq_of_pairwise (fun x y _ _ h1 h2 => ?_) (hs _) (hs _) hp
 simp only [decide_eq_true_eq] at h1 h2
 exact List.le_antisymm h1 h2
theorem zzI {fs : List ByteArray} {seen : List Nat} (hn : seen.Nodup) (hl : ∀ j ∈ seen, j < fs.length) (ha : ∀ j, j < fs.length → j ∈ seen) : (zqt fs seen).Perm fs := by
 have hp : seen.Perm (List.range fs.length) := (List.perm_ext_iff_of_nodup hn List.nodup_range).2 fun j => by
  rw [List.mem_range]
  exact ⟨hl j, ha j⟩
 have h1 : ((List.range fs.length).map fun j => atB fs j) = fs := by
  apply List.ext_getElem
  ·simp
  ·intro i h1 h2
   simp [atB, h2]
 have h2 := hp.map fun j => atB fs j
 rw [h1] at h2
 exact h2
abbrev zAf (fs : List ByteArray) (seen : List Nat) : St := ⟨[(3, .mp 3000), (4, .grow 5002 (zt (zqt fs seen))), (17, .box 6001 0)], [(3000, some (.map none (zaw fs) (zao fs))), (6001, some (.iter 3000 (zaw fs).length seen))], [(5002, some ⟨1, 9, (zqt fs seen).length, none⟩)]⟩
theorem zBM (t : Ex) (hb : zb t ≤ 524288) (hok : zE t = 0 → zlJ t = true) : Con Tryz.prog 140 [avE t] (.d (.sl (zt (zdT t)))) := by
 have cc := zch t (by omega)
 refine zj Tryz.func140 rfl (by decide +kernel) rfl (by simp only [AV.closed, zz, avE, zbC, Bool.and_self]) (by simp [Tryz.ntmps140]) fun A hA => ?_
 rw [Tryz.ntmps140] at hA
 refine goC 300 ?_
 simp only [go_sem, hA, zw]
 refine zc 300 cc rfl (by simp only [go_sem, zw]) (by simp only [go_sem, hA]) ?_
 by_cases h : zE t = 0
 ·have g0 : (decide ¬ zE t = 0) = false := by simpa using h
  have hx : zdT t = zcp (zbL t [] []) := if_pos h
  have ca := zyE (zb t + 1) t [] [] (by omega) (by simp; omega) (hok h)
  simp only [go_sem, hA, g0]
  refine ziJ 8 (args := [.tmp 10, .const (.slice none 0 0)]) (m := .tmp 11) ca rfl rfl rfl rfl rfl rfl (zat _) (by simp only [go_sem, zw]; rfl) (by simp only [go_sem, hA]) ?_
  simp only [go_sem, hA]
  obtain ⟨fs, hfs⟩ : ∃ fs, zbL t [] [] = fs := ⟨_, rfl⟩
  have hfl : fs.length ≤ 524288 := by rw [← hfs]; have := zkN t [] []; simp at this; omega
  rw [hfs] at hx ⊢
  have hkl : (zaw fs).length = fs.length := by simp [zaw]
  refine znb 0 (by simp only [go_sem]) (zsc (kt := 9) (et := 4) rfl (by kernel_rfl) rfl rfl) (by simp only [go_sem, hA]) ?_
  show zcn _ _ _ _ _ _
  simp only [go_sem, hkl]
  have hby16 : Tryz.prog.bytesOf 9 = 16 := by kernel_rfl
  refine znb 300 (by simp only [go_sem]) (zqk (n := fs.length) (z := .string ⟨#[]⟩) (e := 9) (by rfl) (by kernel_rfl) (by kernel_rfl) (by kernel_rfl) (by rfl) (by rfl) (by rw [hby16]; omega) (by unfold maxLen; omega) (St.free_of (r := 5002) (by simp only [go_sem, zH]))) (by simp only [go_sem, hA]) ?_
  simp only [go_sem, hA, zH]
  refine ze [3, 4, 17] [3000, 6001] [5002] (fun y σ => ∃ seen : List Nat, seen.Nodup ∧ (∀ j ∈ seen, j < fs.length) ∧ y = fs.length - seen.length ∧ σ = zAf fs seen) fs.length ⟨[], List.nodup_nil, (fun j hj => by cases hj), rfl, by simp only [go_sem, zAf]; rfl⟩ ?_
  rintro y σ ⟨seen, hnd, hlt, rfl, rfl⟩
  have hsl : seen.length ≤ fs.length := by
   have := List.Nodup.length_le_of_subset hnd (l₂ := List.range fs.length) (fun j hj => List.mem_range.2 (hlt j hj))
   simpa using this
  have hml : (zqt fs seen).length = seen.length := by simp [zqt]
  refine goC 300 ?_
  simp only [go_sem, zAf]
  refine zDG 6 rfl rfl rfl rfl rfl (by simp only [go_sem, hA]) (fun hall => ?_) (fun j hj hj' hns => ?_)
  ·simp only [go_sem, hA]
   refine goC 300 ?_
   simp only [go_sem, hA]
   refine zDF 4 (zqt fs seen) 300 rfl rfl rfl rfl rfl rfl rfl (by omega) (by simp only [go_sem, hA]) (by decide) ?_
   rw [hx, ← zlI (zzI hnd hlt fun j hj => hall j (by rw [hkl]; exact hj))]
   simp only [go_sem, hA, Tryz.results140]
  ·simp only [go_sem, hA]
   refine goC 8 ?_
   simp only [go_sem]
   refine znb 300 (by simp only [go_sem]) (zuJ (j := j) (q := 6001) (r := 3000) (by rfl) (by rfl) (by rfl) (by rfl) (by rfl) hj hj') (by simp only [go_sem, hA]) ?_
   have hjl : j < fs.length := by rw [hkl] at hj; exact hj
   have hkj : (zaw fs)[j] = .string fs[j] := by simp [zaw]
   have htj : (zao fs)[j] = .d (.raw (.bool true)) := by simp [zao]
   rw [hkj, htj]
   simp only [go_sem, hA, za, zH]
   have hmet : zqt fs (seen ++ [j]) = zqt fs seen ++ [fs[j]] := by simp [zqt, atB, hjl]
   have hnd2 : (seen ++ [j]).Nodup := List.nodup_append.2 ⟨hnd, by simp, fun a ha b hb => by
    have : b = j := by simpa using hb
    subst this
    intro e; subst e; exact hns ha⟩
   have hlt2 : ∀ i ∈ seen ++ [j], i < fs.length := fun i hi => by
    rcases List.mem_append.1 hi with h | h
    ·exact hlt i h
    ·have : i = j := by simpa using h
     omega
   have hsl2 : (seen ++ [j]).length ≤ fs.length := by
    have := List.Nodup.length_le_of_subset hnd2 (l₂ := List.range fs.length) (fun j hj => List.mem_range.2 (hlt2 j hj))
    simpa using this
   have hsl3 : (seen ++ [j]).length = seen.length + 1 := by simp
   refine ⟨⟨zbl [fs[j]], zaB _, by omega⟩, fs.length - (seen ++ [j]).length, by omega, seen ++ [j], hnd2, hlt2, rfl, ?_⟩
   rw [hmet, List.length_append, ← zgr]
   rfl
 ·have g0 : (decide ¬ zE t = 0) = true := by simpa using h
  have hx : zdT t = [] := if_neg h
  simp only [go_sem, hA, g0, hx, Tryz.results140]
  rfl
end
section
open Go Go.RowKit
mutual
theorem znr : ∀ t : Ex, zaj t = 0 → zlJ t = true
 | .mk k n m i d s, h => by
  obtain ⟨h1, h2⟩ := zpp h
  obtain ⟨e6, e8, e13, _⟩ := znq h1
  simp only [zlJ, Bool.and_eq_true, Bool.or_eq_true, decide_eq_true_eq]
  exact ⟨⟨⟨(Decidable.em (k = 6)).elim (fun e => .inr (e6 e)) .inl, (Decidable.em (k = 8)).elim (fun e => .inr (e8 e)) .inl⟩, (Decidable.em (k = 13)).elim (fun e => .inr (e13 e)) .inl⟩, zkG s h2⟩
theorem zkG : ∀ l : List Ex, zac l = 0 → znO l = true
 | [], _ => rfl
 | e :: es, h => by
  obtain ⟨h1, h2⟩ := zkI h
  simp only [znO, Bool.and_eq_true]
  exact ⟨znr e h1, zkG es h2⟩
end
theorem zvs {t : Ex} (h : zE t = 0) : zlJ t = true := znr t (zta h).1
theorem zeJ : ∀ a b : List UInt8, Op.bytesLess a b = true ↔ a < b
 | [], [] => by simp [Op.bytesLess]
 | x :: a, [] => by simp [Op.bytesLess]
 | [], y :: b => by simp [Op.bytesLess]
 | x :: a, y :: b => by
  rw [Op.bytesLess, Bool.or_eq_true, Bool.and_eq_true, List.cons_lt_cons_iff, zeJ a b]
  simp
def ltL (a b : ByteArray) : Prop := a.data.toList < b.data.toList
theorem ziz (a b : ByteArray) : ltS a b = true ↔ ltL a b := zeJ _ _
theorem zeZ {a b c : ByteArray} (h1 : ltL a b) (h2 : ltL b c) : ltL a c := List.lt_trans h1 h2
theorem zba (a : ByteArray) : ¬ ltL a a := List.lt_irrefl _
theorem zuY {a b : ByteArray} (h : ¬ ltL a b) (hne : a ≠ b) : ltL b a := by
 have h1 : b.data.toList ≤ a.data.toList := List.not_lt.1 h
 rcases List.le_iff_lt_or_eq.1 h1 with h2 | h2
 ·exact h2
 ·exact absurd (zBg h2).symm hne
abbrev Srt (l : List ByteArray) : Prop := l.Pairwise ltL
theorem zhf {α : Type} {p : α → Bool} : ∀ (l : List α), (l.drop (l.takeWhile p).length = [] ∨ ∃ x r, l.drop (l.takeWhile p).length = x :: r ∧ p x = false) ∧ l.take (l.takeWhile p).length = l.takeWhile p
 | [] => by simp
 | x :: l => by
  rw [List.takeWhile_cons]
  cases hp : p x with
  | false => simp only [Bool.false_eq_true, if_false]; exact ⟨.inr ⟨x, l, rfl, hp⟩, rfl⟩
  | true =>
   obtain ⟨h1, h2⟩ := zhf (p := p) l
   simp only [if_true, List.length_cons, List.drop_succ_cons, List.take_succ_cons, h2, and_true]
   exact h1
theorem zhe {α : Type} {p : α → Bool} : ∀ {l : List α} {x : α}, x ∈ l.takeWhile p → p x = true
 | y :: l, x, h => by
  rw [List.takeWhile_cons] at h
  cases hp : p y with
  | false => rw [hp] at h; simp at h
  | true =>
   rw [hp] at h
   simp only [if_true] at h
   rcases List.mem_cons.1 h with rfl | h
   ·exact hp
   ·exact zhe h
theorem zwS (l : List ByteArray) (s x : ByteArray) : x ∈ zdu l s ↔ x ∈ l ∨ x = s := by
 unfold zdu
 split
 ·rename_i h
  have := List.mem_of_getElem? h
  constructor
  ·exact .inl
  ·rintro (h | rfl)
   ·exact h
   ·exact this
 ·have h : x ∈ l ↔ x ∈ l.take (zgZ l s) ∨ x ∈ l.drop (zgZ l s) := by
   rw [← List.mem_append, List.take_append_drop]
  rw [h]
  simp only [List.mem_append, List.mem_singleton]
  constructor
  ·rintro ((h | h) | h)
   ·exact .inl (.inl h)
   ·exact .inr h
   ·exact .inl (.inr h)
  ·rintro ((h | h) | h)
   ·exact .inl (.inl h)
   ·exact .inr h
   ·exact .inl (.inr h)
theorem zwR {l : List ByteArray} (s : ByteArray) (h : Srt l) : Srt (zdu l s) := by
 unfold zdu
 split
 ·exact h
 ·rename_i hne
  obtain ⟨h1, h2⟩ := zhf (p := fun x => ltS x s) l
  have hsplit : Srt (l.take (zgZ l s) ++ l.drop (zgZ l s)) := by rw [List.take_append_drop]; exact h
  obtain ⟨ha, hb, hab⟩ := List.pairwise_append.1 hsplit
  have hlt : ∀ x ∈ l.take (zgZ l s), ltL x s := fun x hx => by
   unfold zgZ at hx
   rw [h2] at hx
   exact (ziz _ _).1 (zhe (p := fun x => ltS x s) hx)
  have hgt : ∀ x ∈ l.drop (zgZ l s), ltL s x := fun x hx => by
   rcases h1 with h1 | ⟨y, r, h1, hy⟩
   ·unfold zgZ at hx; rw [h1] at hx; cases hx
   ·have hd : l.drop (zgZ l s) = y :: r := h1
    have hyne : y ≠ s := fun e => hne (by
     have : (l.drop (zgZ l s))[0]? = some y := by rw [hd]; rfl
     rw [List.getElem?_drop, Nat.add_zero] at this
     rw [this, e])
    have hys : ltL s y := zuY (fun h => by rw [(ziz _ _).2 h] at hy; cases hy) hyne
    rw [hd] at hx hb
    rcases List.mem_cons.1 hx with rfl | hx
    ·exact hys
    ·exact zeZ hys (List.rel_of_pairwise_cons hb hx)
  refine List.pairwise_append.2 ⟨List.pairwise_append.2 ⟨ha, List.pairwise_singleton _ _, fun x hx y hy => ?_⟩, hb, fun x hx y hy => ?_⟩
  ·rw [List.mem_singleton] at hy; subst hy; exact hlt x hx
  ·rcases List.mem_append.1 hx with hx | hx
   ·exact hab x hx y hy
   ·rw [List.mem_singleton] at hx; subst hx; exact hgt y hy
structure Alike (l fs : List ByteArray) : Prop where
 mem : ∀ x, x ∈ l ↔ x ∈ fs
 srt : Srt l
 nd : fs.Nodup
theorem zgj {l : List ByteArray} {s : ByteArray} : zbN l s = true ↔ s ∈ l := by
 simp [zbN]
theorem Alike.add {l fs : List ByteArray} (h : Alike l fs) (s : ByteArray) : Alike (zdu l s) (zeh fs s) := by
 refine ⟨fun x => ?_, zwR s h.srt, ?_⟩
 ·rw [zwS]
  unfold zeh
  split
  ·rename_i hs
   have := zgj.1 hs
   rw [h.mem]
   constructor
   ·rintro (h | rfl)
    ·exact h
    ·exact this
   ·exact .inl
  ·rw [List.mem_append, List.mem_singleton, h.mem]
 ·unfold zeh
  split
  ·exact h.nd
  ·rename_i hs
   refine List.nodup_append.2 ⟨h.nd, by simp, fun a ha b hb e => ?_⟩
   rw [List.mem_singleton] at hb
   subst hb; subst e
   exact hs (zgj.2 ha)
mutual
theorem znf : ∀ (t : Ex) (bd l fs : List ByteArray), zaj t = 0 → Alike l fs → Alike (zdj t bd l) (zbL t bd fs)
 | .mk k n m i d s, bd, l, fs, hc, h => by
  obtain ⟨h1, h2⟩ := zpp hc
  rw [zdj, zbL]
  by_cases hk : k = 3
  ·have hs : s = [] := List.eq_nil_of_length_eq_zero ((znq h1).2.2.2.1 hk)
   subst hs
   cases hb : zbN bd n with
   | true => simp only [hk, zcr]; simpa using h
   | false => simp only [hk]; simpa using h.add n
  ·simp only [hk, false_and, if_false]
   exact zkA k n m 0 s bd l fs h2 h
theorem zkA (k : Int) (n m : ByteArray) : ∀ (i : Nat) (s : List Ex) (bd l fs : List ByteArray), zac s = 0 → Alike l fs → Alike (zcr k n m i s bd l) (zdL k n m i s bd fs)
 | i, [], bd, l, fs, _, h => by rw [zcr, zdL]; exact h
 | i, e :: es, bd, l, fs, hc, h => by
  obtain ⟨h1, h2⟩ := zkI hc
  rw [zcr, zdL]
  exact zkA k n m (i + 1) es bd _ _ h2 (znf e _ l fs h1 h)
end
theorem zxd {l : List ByteArray} (h : Srt l) : l.Nodup := h.imp fun h e => by subst e; exact zba _ h
theorem Alike.sort {l fs : List ByteArray} (h : Alike l fs) : zcp fs = l := by
 have hp : l.Perm fs := (List.perm_ext_iff_of_nodup (zxd h.srt) h.nd).2 h.mem
 rw [← zlI hp]
 unfold zcp
 have hs : (l.map fun s => s.data.toList).Pairwise fun x y => decide (x ≤ y) = true := by
  rw [List.pairwise_map]
  exact h.srt.imp fun h => decide_eq_true (List.le_of_lt h)
 rw [List.mergeSort_of_pairwise hs, List.map_map]
 have : ((fun x : List UInt8 => (⟨x.toArray⟩ : ByteArray)) ∘ fun s : ByteArray => s.data.toList) = id := by
  funext s; rfl
 rw [this, List.map_id]
theorem zye {t : Ex} (h : zE t = 0) : zcp (zbL t [] []) = zdj t [] [] :=
 (znf t [] [] [] (zta h).1 ⟨fun _ => Iff.rfl, .nil, .nil⟩).sort
theorem zxf (t : Ex) : zdT t = zhn t := by
 unfold zdT zhn
 split
 ·rename_i h; exact zye h
 ·rfl
end
section
open Go Go.RowKit
theorem zBh (l : List ByteArray) : Con Tryz.prog 136 [.d (.sl (zt l))] (.d (.raw (.int .i64 (zak l)))) := by
 refine zj Tryz.func136 rfl (by decide +kernel) rfl rfl (by simp [Tryz.ntmps136]) fun A hA => ?_
 rw [Tryz.ntmps136] at hA
 refine goC 400 ?_
 by_cases h5 : ¬ l.length = 1 ∧ ¬ l.length = 3
 ·have g5 : (decide ¬ (l.length : Int) = 1) = true := decide_eq_true (by omega)
  have g6 : (decide ¬ (l.length : Int) = 3) = true := decide_eq_true (by omega)
  have he : zak l = 1 := by unfold zak; rw [if_pos h5]
  simp only [go_sem, hA, g5, g6, za, he, Tryz.results136]
 have h6 : l.length = 1 ∨ (¬ l.length = 1 ∧ l.length = 3) := by omega
 have he : zak l = if l.any (zN l) then 6 else 0 := by unfold zak; rw [if_neg h5]
 rcases h6 with h6 | ⟨h6, h7⟩
 case' inl =>
  have g5 : (decide ¬ (l.length : Int) = 1) = false := decide_eq_false (by omega)
  have g7 : decide ((l.length : Int) = 1) = true := decide_eq_true (by omega)
  simp only [go_sem, hA, g5, undef, za]
 case' inr =>
  have g5 : (decide ¬ (l.length : Int) = 1) = true := decide_eq_true (by omega)
  have g6 : (decide ¬ (l.length : Int) = 3) = false := decide_eq_false (by omega)
  have g7 : decide ((l.length : Int) = 1) = false := decide_eq_false (by omega)
  simp only [go_sem, hA, g5, g6, za]
 all_goals
  refine ze [0, 13, 14, 15] [] [] (fun y σ => ∃ q : Nat, q ≤ l.length ∧ y = l.length - q ∧ (l.take q).any (zN l) = false ∧ σ = zsR l q) l.length ⟨0, by omega, by omega, rfl, by simp only [go_sem, zsR]⟩ ?_
  rintro y σ ⟨q, hq, rfl, hf, rfl⟩
  refine goC 400 ?_
  by_cases hlt : q < l.length
  ·have k1 : decide ((q : Int) < (l.length : Int)) = true := decide_eq_true (by omega)
   have hc := zwK l[q]
   simp only [go_sem, hA, zsR, za, k1, Int.toNat_natCast, zJ l q hlt]
   refine ⟨⟨by omega, by omega⟩, ?_⟩
   have hbad : zN l l[q] = true → zak l = 6 := fun h => by
    rw [he, if_pos]
    rw [List.any_eq_true]
    exact ⟨_, List.getElem_mem hlt, h⟩
   have hgood : zN l l[q] = false → (l.take (q + 1)).any (zN l) = false := fun h => by
    rw [List.take_succ_eq_append_getElem hlt, List.any_append, hf]
    simp [h]
   have g7' : decide (l.length = 1) = decide ((l.length : Int) = 1) := decide_eq_decide.2 (by omega)
   obtain ⟨one, g8⟩ : ∃ one, decide ((l.length : Int) = 1) = one := ⟨_, rfl⟩
   rw [g8] at g7'
   cases hn : zah l[q] with
   | true =>
    rw [hn] at hc
    have hb := hgood (by unfold zN; rw [hn]; rfl)
    refine zc 300 hc rfl (by simp only [go_sem]) (by simp only [go_sem, hA]) ?_
    simp only [go_sem, hA, undef]
    exact ⟨by unfold zf; omega, l.length - (q + 1), by omega, q + 1, by omega, rfl, hb, rfl⟩
   | false =>
    rw [hn] at hc
    refine zc 300 hc rfl (by simp only [go_sem]) (by simp only [go_sem, hA]) ?_
    cases one with
    | true =>
     have hb := hbad (by unfold zN; rw [hn, g7']; rfl)
     simp only [go_sem, hA, za, g8, hb, undef, Tryz.results136]
    | false =>
     by_cases hz : l[q] = ⟨#[]⟩
     ·have hb := hgood (by unfold zN; rw [hn, g7', hz]; rfl)
      have k2 : decide (¬ l[q] = ⟨#[]⟩) = false := decide_eq_false (fun h => h hz)
      simp only [go_sem, hA, za, g8, k2]
      exact ⟨by unfold zf; omega, l.length - (q + 1), by omega, q + 1, by omega, rfl, hb, rfl⟩
     ·have hb := hbad (by unfold zN; rw [hn, g7']; simp [hz])
      have k2 : decide (¬ l[q] = ⟨#[]⟩) = true := decide_eq_true hz
      simp only [go_sem, hA, za, g8, k2, hb, Tryz.results136]
  ·have k1 : decide ((q : Int) < (l.length : Int)) = false := decide_eq_false (by omega)
   obtain rfl : q = l.length := by omega
   rw [List.take_length] at hf
   rw [hf] at he
   simp only [go_sem, hA, zsR, k1, he, Tryz.results136]
theorem zCk (x : Ex) : Con Tryz.prog 139 [avE x] (.d (.raw (.bool (decide (x.kind = 4))))) := by
 refine zj Tryz.func139 rfl (by decide +kernel) rfl (by simp only [go_sem, zw]) (by simp [Tryz.ntmps139]) fun A hA => ?_
 rw [Tryz.ntmps139] at hA
 refine goC 400 ?_
 simp only [go_sem, hA, zw, Tryz.results139]
def zbZ (label : ByteArray) (x : Ex) : Bool := decide (x.kind = 5) && decide (x.name = label)
theorem zzt (label : ByteArray) (x : Ex) : Con Tryz.prog 141 [avE x, .at_ [.raw (.string label)]] (.d (.raw (.bool (zbZ label x)))) := by
 refine zj Tryz.func141 rfl (by decide +kernel) rfl (by simp only [go_sem, zw]) (by simp [Tryz.ntmps141]) fun A hA => ?_
 rw [Tryz.ntmps141] at hA
 refine goC 400 ?_
 unfold zbZ
 cases h : decide (x.kind = 5) <;> simp only [go_sem, hA, zw, h, undef, Bool.false_and, Tryz.results141]
def zbf (label : ByteArray) (d : Dc) : Int :=
 if d.id < 1 ∨ 999999 < d.id then 2 else if ¬ d.kind = 1 ∧ ¬ d.kind = 2 ∧ ¬ d.kind = 3 then 9 else if ¬ zak d.names = 0 then zak d.names else if ¬ zE d.body = 0 then zE d.body
 else if zcI (fun x => decide (x.kind = 4)) d.body then 9 else if 0 < (zdT d.body).length then 21 else if zcI (zbZ label) d.body then 1 else 0
theorem zCT (label : ByteArray) (d : Dc) (hb : zb d.body ≤ 524288) (hok : zE d.body = 0 → zlJ d.body = true) : Con Tryz.prog 70 [.d (.raw (.string label)), avD d] (.d (.raw (.int .i64 (zbf label d)))) := by
 refine zj Tryz.func70 rfl (by decide +kernel) rfl rfl (by simp [Tryz.ntmps70]) fun A hA => ?_
 rw [Tryz.ntmps70] at hA
 refine goC 400 ?_
 by_cases h1 : d.id < 1
 ·have g1 : decide (d.id < 1) = true := decide_eq_true h1
  have hr : zbf label d = 2 := if_pos (.inl h1)
  simp only [go_sem, hA, avD, g1, hr, undef, Tryz.results70]
 have g1 : decide (d.id < 1) = false := decide_eq_false h1
 by_cases h2 : 999999 < d.id
 ·have g2 : decide (999999 < d.id) = true := decide_eq_true h2
  have hr : zbf label d = 2 := if_pos (.inr h2)
  simp only [go_sem, hA, avD, g1, g2, hr, Tryz.results70]
 have g2 : decide (999999 < d.id) = false := decide_eq_false h2
 have hr0 : zbf label d = if ¬ d.kind = 1 ∧ ¬ d.kind = 2 ∧ ¬ d.kind = 3 then 9 else if ¬ zak d.names = 0 then zak d.names else if ¬ zE d.body = 0 then zE d.body
   else if zcI (fun x => decide (x.kind = 4)) d.body then 9 else if 0 < (zdT d.body).length then 21 else if zcI (zbZ label) d.body then 1 else 0 := if_neg (by omega)
 by_cases hk : ¬ d.kind = 1 ∧ ¬ d.kind = 2 ∧ ¬ d.kind = 3
 ·rw [if_pos hk] at hr0
  simp only [go_sem, hA, avD, g1, g2, hk.1, hk.2.1, hk.2.2, hr0, Tryz.results70]
 rw [if_neg hk] at hr0
 have hk3 : d.kind = 1 ∨ (¬ d.kind = 1 ∧ d.kind = 2) ∨ (¬ d.kind = 1 ∧ ¬ d.kind = 2 ∧ d.kind = 3) := by omega
 rcases hk3 with hk | ⟨hk, hk'⟩ | ⟨hk, hk', hk''⟩
 case' inl => simp only [go_sem, hA, avD, g1, g2, hk, undef]
 case' inr.inl => simp only [go_sem, hA, avD, g1, g2, hk', undef, Int.reduceEq]
 case' inr.inr => simp only [go_sem, hA, avD, g1, g2, hk'', Int.reduceEq]
 all_goals
  refine zc 400 (zBh d.names) rfl (by simp only [go_sem]) (by simp only [go_sem, hA]) ?_
  by_cases hn : zak d.names = 0
  case neg =>
   have g3 : (decide ¬ zak d.names = 0) = true := decide_eq_true hn
   rw [if_pos hn] at hr0
   simp only [go_sem, hA, g3, hr0, Tryz.results70]
  have g3 : (decide ¬ zak d.names = 0) = false := by simp [hn]
  rw [if_neg (by simp [hn])] at hr0
  simp only [go_sem, hA, g3]
  refine zc 400 (zch d.body (by omega)) rfl (by simp only [go_sem, zw]) (by simp only [go_sem, hA]) ?_
  by_cases hx : zE d.body = 0
  case neg =>
   have g4 : (decide ¬ zE d.body = 0) = true := decide_eq_true hx
   rw [if_pos hx] at hr0
   simp only [go_sem, hA, g4, hr0, Tryz.results70]
  have g4 : (decide ¬ zE d.body = 0) = false := by simp [hx]
  rw [if_neg (by simp [hx])] at hr0
  simp only [go_sem, hA, g4]
  refine zc 400 (zkJ d.body 139 [] (fun x => decide (x.kind = 4)) rfl rfl (by omega) fun x _ => zCk x) rfl (by simp only [go_sem, zw]) (by simp only [go_sem, hA]) ?_
  cases hd : zcI (fun x => decide (x.kind = 4)) d.body with
  | true =>
   rw [if_pos hd] at hr0
   simp only [go_sem, hA, hr0, Tryz.results70]
  | false =>
  rw [if_neg (by simp [hd])] at hr0
  simp only [go_sem, hA]
  refine zc 400 (zBM d.body hb hok) rfl (by simp only [go_sem, zw]) (by simp only [go_sem, hA]) ?_
  by_cases hf : 0 < (zdT d.body).length
  ·have g5 : decide ((0 : Int) < ((zdT d.body).length : Int)) = true := decide_eq_true (by omega)
   rw [if_pos hf] at hr0
   simp only [go_sem, hA, za, g5, hr0, Tryz.results70]
  have g5 : decide ((0 : Int) < ((zdT d.body).length : Int)) = false := decide_eq_false (by omega)
  rw [if_neg hf] at hr0
  simp only [go_sem, hA, za, g5]
  refine zzY 0 ?_
  simp only [go_sem]
  refine zc 400 (zkJ d.body 141 [.at_ [.raw (.string label)]] (zbZ label) rfl rfl (by omega) fun x _ => zzt label x) rfl (by simp only [go_sem, zw]) (by simp only [go_sem, hA]) ?_
  cases hd2 : zcI (zbZ label) d.body with
  | true =>
   rw [if_pos hd2] at hr0
   simp only [go_sem, hA, hr0, Tryz.results70]
  | false =>
   rw [if_neg (by simp [hd2])] at hr0
   simp only [go_sem, hA, hr0, Tryz.results70]
end
section
open Go Go.RowKit
structure Mo where
 label : ByteArray
 uses : List ByteArray
 decls : List Dc
def zfh (x : Mo) : List D := [.raw (.string x.label), .sl (zt x.uses), .sl (zaW x.decls)]
def avM (x : Mo) : AV := .agg [.d (.raw (.string x.label)), .d (.sl (zt x.uses)), .d (.sl (zaW x.decls))]
def bdE (label : ByteArray) (l : List Dc) (q : Nat) : Int :=
 if ¬ zbf label (atD l q) = 0 then zbf label (atD l q) else if 0 < q ∧ (atD l q).id ≤ (atD l (q - 1)).id then 10 else 0
def zae (x : Mo) : Int :=
 if zR x.label.data.toList then
  (if ¬ zfr zaz ⟨x.uses, []⟩ = 0 then zfr zaz ⟨x.uses, []⟩ else if ¬ zl (zcz x.label x.uses) x.uses.length = 0 then zl (zcz x.label x.uses) x.uses.length
   else if 100 < x.decls.length then 4 else zl (bdE x.label x.decls) x.decls.length) else 6
abbrev ztd (x : Mo) (q : Nat) : St := ⟨[(1, .box 0 0), (22, .d (.raw (.int .i64 x.uses.length))), (23, .d (.raw (.int .i64 q)))], [(0, some (.cell 56 [.d (.raw (.string x.label)), .d (.sl (zt x.uses)), .d (.sl (zaW x.decls))]))], []⟩
abbrev zwJ (x : Mo) (q : Nat) : St := ⟨[(1, .box 0 0), (41, .d (.sl (zaW x.decls))), (42, .d (.raw (.int .i64 x.decls.length))), (43, .d (.raw (.int .i64 q)))], [(0, some (.cell 56 [.d (.raw (.string x.label)), .d (.sl (zt x.uses)), .d (.sl (zaW x.decls))]))], []⟩
theorem zpF {u : List ByteArray} (h : zfr zaz ⟨u, []⟩ = 0) : u.length ≤ 20 := by
 unfold zfr at h
 split at h
 ·cases h
 ·simp only at *; omega
theorem zvz (x : Mo) (hb : ∀ d ∈ x.decls, zb d.body ≤ 524288) : Con Tryz.prog 27 [avM x] (.d (.raw (.int .i64 (zae x)))) := by
 refine zj Tryz.func27 rfl (by decide +kernel) rfl rfl (by simp [Tryz.ntmps27]) fun A hA => ?_
 rw [Tryz.ntmps27] at hA
 refine goC 400 ?_
 simp only [go_sem, hA, avM]
 refine zc 400 (zlO x.label) rfl (by simp only [go_sem]) (by simp only [go_sem, hA]) ?_
 cases hl : zR x.label.data.toList with
 | false =>
  have hr : zae x = 6 := by unfold zae; rw [hl]; rfl
  simp only [go_sem, hA, hr, Tryz.results27]
 | true =>
 have hr0 : zae x = if ¬ zfr zaz ⟨x.uses, []⟩ = 0 then zfr zaz ⟨x.uses, []⟩ else if ¬ zl (zcz x.label x.uses) x.uses.length = 0 then zl (zcz x.label x.uses) x.uses.length
   else if 100 < x.decls.length then 4 else zl (bdE x.label x.decls) x.decls.length := by unfold zae; rw [hl]; rfl
 simp only [go_sem, hA]
 refine zc 400 (zxc ⟨x.uses, []⟩ (fun d h => by cases h)) rfl (by simp only [go_sem, avS]; rfl) (by simp only [go_sem, hA]) ?_
 by_cases hs : zfr zaz ⟨x.uses, []⟩ = 0
 case neg =>
  have g4 : (decide ¬ zfr zaz ⟨x.uses, []⟩ = 0) = true := decide_eq_true hs
  rw [if_pos hs] at hr0
  simp only [go_sem, hA, g4, hr0, Tryz.results27]
 have g4 : (decide ¬ zfr zaz ⟨x.uses, []⟩ = 0) = false := by simp [hs]
 have hul := zpF hs
 rw [if_neg (by simp [hs])] at hr0
 simp only [go_sem, hA, g4, za]
 refine ze [1, 22, 23] [0] [] (fun y σ => ∃ q : Nat, q ≤ x.uses.length ∧ y = x.uses.length - q ∧ zl (zcz x.label x.uses) q = 0 ∧ σ = ztd x q) x.uses.length ⟨0, by omega, by omega, rfl, by simp only [go_sem, ztd]⟩ ?_
 rintro y σ ⟨q, hq, rfl, hf, rfl⟩
 refine goC 400 ?_
 by_cases hlt : q < x.uses.length
 ·have k1 : decide ((q : Int) < (x.uses.length : Int)) = true := decide_eq_true (by omega)
  simp only [go_sem, hA, ztd, k1]
  refine zc 400 (zvt x.label x.uses q hlt (by omega)) rfl (by simp only [go_sem]) (by simp only [go_sem, hA]) ?_
  by_cases hu : zcz x.label x.uses q = 0
  ·have g5 : (decide ¬ zcz x.label x.uses q = 0) = false := by simp [hu]
   simp only [go_sem, hA, g5]
   exact ⟨by unfold zf; omega, x.uses.length - (q + 1), by omega, q + 1, by omega, rfl, zr hf hu, rfl⟩
  ·have g5 : (decide ¬ zcz x.label x.uses q = 0) = true := decide_eq_true hu
   have hn : zl (zcz x.label x.uses) x.uses.length = zcz x.label x.uses q := zC hf hlt hu
   rw [hn, if_pos hu] at hr0
   simp only [go_sem, hA, g5, hr0, Tryz.results27]
 have k1 : decide ((q : Int) < (x.uses.length : Int)) = false := decide_eq_false (by omega)
 obtain rfl : q = x.uses.length := by omega
 rw [if_neg (by simp [hf])] at hr0
 by_cases h2 : 100 < x.decls.length
 ·have g2 : decide ((100 : Int) < (x.decls.length : Int)) = true := decide_eq_true (by omega)
  rw [if_pos h2] at hr0
  simp only [go_sem, hA, ztd, zi, k1, g2, hr0, Tryz.results27]
 have g2 : decide ((100 : Int) < (x.decls.length : Int)) = false := decide_eq_false (by omega)
 rw [if_neg h2] at hr0
 simp only [go_sem, hA, ztd, zi, k1, g2]
 refine ze [1, 41, 42, 43] [0] [] (fun y σ => ∃ q : Nat, q ≤ x.decls.length ∧ y = x.decls.length - q ∧ zl (bdE x.label x.decls) q = 0 ∧ σ = zwJ x q) x.decls.length ⟨0, by omega, by omega, rfl, by simp only [go_sem, zwJ]⟩ ?_
 rintro y σ ⟨q, hq, rfl, hf2, rfl⟩
 refine goC 400 ?_
 by_cases hlt : q < x.decls.length
 case neg =>
  have k1 : decide ((q : Int) < (x.decls.length : Int)) = false := decide_eq_false (by omega)
  obtain rfl : q = x.decls.length := by omega
  rw [hf2] at hr0
  simp only [go_sem, hA, zwJ, k1, hr0, Tryz.results27]
 have k1 : decide ((q : Int) < (x.decls.length : Int)) = true := decide_eq_true (by omega)
 have hat := zcH x.decls q hlt
 obtain ⟨d, hd⟩ : ∃ d, x.decls[q] = d := ⟨_, rfl⟩
 rw [hd] at hat
 have hc := zCT x.label d (hb d (by rw [← hd]; exact List.getElem_mem hlt)) zvs
 simp only [go_sem, hA, zwJ, zi, k1, Int.toNat_natCast, zai x.decls q hlt, hd, zdm]
 refine ⟨⟨by omega, by omega⟩, ?_⟩
 refine zc 400 hc rfl (by simp only [go_sem, avD]) (by simp only [go_sem, hA]) ?_
 have hbe : bdE x.label x.decls q = if ¬ zbf x.label d = 0 then zbf x.label d else if 0 < q ∧ d.id ≤ (atD x.decls (q - 1)).id then 10 else 0 := by unfold bdE; rw [hat]
 by_cases he : zbf x.label d = 0
 case neg =>
  have g5 : (decide ¬ zbf x.label d = 0) = true := decide_eq_true he
  rw [if_pos he] at hbe
  rw [zC hf2 hlt (by rw [hbe]; exact he), hbe] at hr0
  simp only [go_sem, hA, g5, hr0, Tryz.results27]
 have g5 : (decide ¬ zbf x.label d = 0) = false := by simp [he]
 rw [if_neg (by simp [he])] at hbe
 by_cases hq0 : 0 < q
 ·have k2 : decide ((0 : Int) < (q : Int)) = true := decide_eq_true (by omega)
  have hq1 : ((q : Int) - 1).toNat = q - 1 := by omega
  have hat1 := zcH x.decls (q - 1) (by omega)
  have hin : zf ((q : Int) - 1) := by unfold zf; omega
  rw [hat1] at hbe
  by_cases hi : d.id ≤ x.decls[q - 1].id
  ·have k3 : decide (d.id ≤ x.decls[q - 1].id) = true := decide_eq_true hi
   rw [if_pos ⟨hq0, hi⟩] at hbe
   rw [zC hf2 hlt (by rw [hbe]; decide), hbe] at hr0
   simp only [go_sem, hA, g5, k2, zi, hq1, zai x.decls (q - 1) (by omega), zdm, k3, hr0, mixed, Tryz.results27]
   exact ⟨hin, ⟨by omega, by omega⟩, by show chk _ _ _ = true; kernel_rfl⟩
  ·have k3 : decide (d.id ≤ x.decls[q - 1].id) = false := decide_eq_false hi
   rw [if_neg fun h => hi h.2] at hbe
   simp only [go_sem, hA, g5, k2, zi, hq1, zai x.decls (q - 1) (by omega), zdm, k3, mixed]
   exact ⟨hin, ⟨by omega, by omega⟩, by show chk _ _ _ = true; kernel_rfl, by unfold zf; omega, x.decls.length - (q + 1), by omega, q + 1, by omega, rfl, zr hf2 hbe, rfl⟩
 ·have k2 : decide ((0 : Int) < (q : Int)) = false := decide_eq_false (by omega)
  rw [if_neg fun h => hq0 h.1] at hbe
  simp only [go_sem, hA, g5, k2, undef, mixed]
  exact ⟨by show chk _ _ _ = true; kernel_rfl, by unfold zf; omega, x.decls.length - (q + 1), by omega, q + 1, by omega, rfl, zr hf2 hbe, rfl⟩
end
section
open Go Go.RowKit
structure Fl where
 path : ByteArray
 data : ByteArray
def zqH (x : Fl) : List D := [.raw (.string x.path), .raw (.string x.data)]
def avF (x : Fl) : AV := .agg [.d (.raw (.string x.path)), .d (.raw (.string x.data))]
def zW (l : List Fl) : List (List D) := l.map zqH
theorem zh (l : List Fl) : (zW l).length = l.length := by simp [zW]
theorem zam (l : List Fl) (i : Nat) (h : i < l.length) : (zW l).getD i [] = [.raw (.string l[i].path), .raw (.string l[i].data)] := by
 simp [zW, List.getD_eq_getElem?_getD, h, zqH]
theorem zgR (l : List Fl) : zK 2 (zW l) := by
 intro r hr
 obtain ⟨x, _, rfl⟩ := List.mem_map.1 hr
 refine ⟨rfl, fun y hy => ?_⟩
 simp only [zqH, List.mem_cons, List.not_mem_nil, or_false] at hy
 rcases hy with rfl | rfl <;> rfl
theorem zsV (s : ByteArray) (hs : s.size ≤ 9223372036854775807) : Con Tryz.prog 75 [.d (.raw (.string s)), .d (.raw (.string ⟨#[46, 112, 107]⟩))] (.tup [.d (.raw (.string ⟨(Lib.trimSuffix s.data.toList [46, 112, 107]).toArray⟩)), .d (.raw (.bool (Lib.hasSuffix s.data.toList [46, 112, 107])))]) :=
 zqL (vs := [.string s, .string ⟨#[46, 112, 107]⟩]) ⟨_, Tryz.func75, by decide +kernel, rfl⟩ rfl (fun _ _ => .tup [_, _] [_, _] rfl fun i hi _ => by
  match i, hi with
  | 0, _ => exact .d (.raw _)
  | 1, _ => exact .d (.raw _)) fun w => (Tryz.strings_CutSuffix s ⟨#[46, 112, 107]⟩ w hs).mono fun e w' h => ⟨h.1, h.2 ▸ Below.refl _ _⟩
def zdy (s : ByteArray) : Bool := Lib.hasSuffix s.data.toList [46, 112, 107] && decide (¬ zY ⟨(Lib.trimSuffix s.data.toList [46, 112, 107]).toArray⟩ = ⟨#[]⟩)
theorem zmX (s : ByteArray) (hs : s.size ≤ 9223372036854775807) : Con Tryz.prog 31 [.d (.raw (.string s))] (.d (.raw (.bool (zdy s)))) := by
 refine zj Tryz.func31 rfl (by decide +kernel) rfl rfl (by simp [Tryz.ntmps31]) fun A hA => ?_
 rw [Tryz.ntmps31] at hA
 refine goC 400 ?_
 simp only [go_sem, hA]
 refine zc 400 (zsV s hs) rfl (by simp only [go_sem]) (by simp only [go_sem, hA]) ?_
 cases hh : Lib.hasSuffix s.data.toList [46, 112, 107] with
 | false =>
  have hr : zdy s = false := by unfold zdy; rw [hh]; rfl
  simp only [go_sem, hA, hr, undef, Tryz.results31]
 | true =>
  have hr : zdy s = decide (¬ zY ⟨(Lib.trimSuffix s.data.toList [46, 112, 107]).toArray⟩ = ⟨#[]⟩) := by unfold zdy; rw [hh]; rfl
  simp only [go_sem, hA]
  refine zc 400 (zqW ⟨(Lib.trimSuffix s.data.toList [46, 112, 107]).toArray⟩) rfl (by simp only [go_sem]) (by simp only [go_sem, hA]) ?_
  simp only [go_sem, hA, hr, Tryz.results31]
def zqO (a b : ByteArray) : Int := Lib.compareBytes a.data.toList b.data.toList
theorem zyv (a b : ByteArray) : Con Tryz.prog 81 [.d (.raw (.string a)), .d (.raw (.string b))] (.d (.raw (.int .i64 (zqO a b)))) :=
 zqL (vs := [.string a, .string b]) ⟨_, Tryz.func81, by decide +kernel, rfl⟩ rfl (fun _ _ => .d (.raw _)) fun w => (Tryz.strings_Compare a b w).mono fun e w' h => ⟨h.1, h.2 ▸ Below.refl _ _⟩
theorem zpg (x : Fl) (s : ByteArray) : Con Tryz.prog 80 [avF x, .d (.raw (.string s))] (.d (.raw (.int .i64 (zqO x.path s)))) := by
 refine zj Tryz.func80 rfl (by decide +kernel) rfl rfl (by simp [Tryz.ntmps80]) fun A hA => ?_
 rw [Tryz.ntmps80] at hA
 refine goC 400 ?_
 simp only [go_sem, hA, avF]
 refine zc 400 (zyv x.path s) rfl (by simp only [go_sem]) (by simp only [go_sem, hA]) ?_
 simp only [go_sem, hA, Tryz.results80]
end
section
open Go Go.RowKit
theorem zbq {α : Type} {p : α → Bool} {l : List α} {q : Nat} (hq : q < l.length) (h : (l.take q).any p = false) (h1 : p l[q] = false) : (l.take (q + 1)).any p = false := by
 rw [List.take_succ_eq_append_getElem hq, List.any_append, h]
 simp [h1]
theorem zgV {α : Type} {p : α → Bool} {l : List α} {q : Nat} (hq : q < l.length) (h1 : p l[q] = true) : l.any p = true := List.any_eq_true.2 ⟨l[q], List.getElem_mem hq, h1⟩
end
section
open Go Go.RowKit
structure Tc where
 path : ByteArray
 inB : Bool
 inL : Bool
 inR : Bool
 base : ByteArray
 left : ByteArray
 right : ByteArray
def zgs (x : Tc) : List D := [.raw (.string x.path), .raw (.bool x.inB), .raw (.bool x.inL), .raw (.bool x.inR), .raw (.string x.base), .raw (.string x.left), .raw (.string x.right)]
def avC (x : Tc) : AV := .agg [.d (.raw (.string x.path)), .d (.raw (.bool x.inB)), .d (.raw (.bool x.inL)), .d (.raw (.bool x.inR)), .d (.raw (.string x.base)), .d (.raw (.string x.left)), .d (.raw (.string x.right))]
def zaI (l : List Tc) : List (List D) := l.map zgs
theorem zq (l : List Tc) : (zaI l).length = l.length := by simp [zaI]
theorem zbP (l : List Tc) (i : Nat) (h : i < l.length) : (zaI l).getD i [] = zgs l[i] := by simp [zaI, List.getD_eq_getElem?_getD, h]
theorem zjJ (l : List Tc) : zK 7 (zaI l) := by
 intro r hr
 obtain ⟨x, _, rfl⟩ := List.mem_map.1 hr
 refine ⟨rfl, fun y hy => ?_⟩
 simp only [zgs, List.mem_cons, List.not_mem_nil, or_false] at hy
 rcases hy with rfl | rfl | rfl | rfl | rfl | rfl | rfl <;> rfl
def zbd (l : List Mo) : List (List D) := l.map zfh
theorem zv (l : List Mo) : (zbd l).length = l.length := by simp [zbd]
theorem zbm (l : List Mo) (i : Nat) (h : i < l.length) : (zbd l).getD i [] = zfh l[i] := by simp [zbd, List.getD_eq_getElem?_getD, h]
theorem zpj (l : List Mo) : zK 3 (zbd l) := by
 intro r hr
 obtain ⟨x, _, rfl⟩ := List.mem_map.1 hr
 refine ⟨rfl, fun y hy => ?_⟩
 simp only [zfh, List.mem_cons, List.not_mem_nil, or_false] at hy
 rcases hy with rfl | rfl | rfl <;> rfl
def ixF {α : Type} (p : α → Bool) (l : List α) : Int := if l.any p then (l.findIdx p : Int) else -1
theorem zll {α : Type} {p : α → Bool} {l : List α} {q : Nat} (hq : q < l.length) (hf : (l.take q).any p = false) (h : p l[q] = true) : ixF p l = q := by
 unfold ixF
 rw [if_pos (List.any_eq_true.2 ⟨_, List.getElem_mem hq, h⟩), (List.findIdx_eq hq).2 ⟨h, fun j hj => ?_⟩]
 rw [List.any_eq_false] at hf
 have := hf l[j] (List.mem_take_iff_getElem.2 ⟨j, by omega, rfl⟩)
 simpa using this
theorem zmW {α : Type} (p : α → Bool) (l : List α) : decide (0 ≤ ixF p l) = l.any p := by
 unfold ixF
 cases l.any p with
 | true => exact decide_eq_true (by simp only [if_true]; omega)
 | false => rfl
abbrev ziD (f : FuncId) (cs : List AV) (l : List Fl) (q : Nat) : St := ⟨[(0, .d (.sl (zW l))), (1, .fn f cs), (7, .d (.raw (.int .i64 l.length))), (8, .d (.raw (.int .i64 q)))], [], []⟩
theorem zzO (l : List Fl) (f : FuncId) (cs : List AV) (p : Fl → Bool) (hcs : zz cs = true) (hcl : zX cs = some cs) (hl : l.length ≤ 1048576) (hp : ∀ x ∈ l, Con Tryz.prog f (avF x :: cs) (.d (.raw (.bool (p x))))) : Con Tryz.prog 74 [.d (.sl (zW l)), .fn f cs] (.d (.raw (.int .i64 (ixF p l)))) := by
 refine zj Tryz.func74 rfl (by decide +kernel) rfl (by simp only [go_sem, hcs]) (by simp [Tryz.ntmps74]) fun A hA => ?_
 rw [Tryz.ntmps74] at hA
 refine goC 400 ?_
 simp only [go_sem, hA, zh]
 refine ze [0, 1, 7, 8] [] [] (fun y σ => ∃ q : Nat, q ≤ l.length ∧ y = l.length - q ∧ (l.take q).any p = false ∧ σ = ziD f cs l q) l.length ⟨0, by omega, by omega, rfl, by simp only [go_sem, ziD]⟩ ?_
 rintro y σ ⟨q, hq, rfl, hf, rfl⟩
 refine goC 400 ?_
 by_cases hlt : q < l.length
 ·have k1 : decide ((q : Int) < (l.length : Int)) = true := decide_eq_true (by omega)
  have hc := hp l[q] (List.getElem_mem hlt)
  simp only [go_sem, hA, ziD, zh, k1, Int.toNat_natCast, zam l q hlt]
  refine ⟨⟨by omega, by omega⟩, ?_⟩
  refine zfH 400 (cs := cs) hc rfl rfl (by simp only [go_sem]) (by simp only [go_sem, hcl, avF]) (by simp only [go_sem, hA]) ?_
  cases hx : p l[q] with
  | true => simp only [go_sem, hA, zll hlt hf hx, Tryz.results74]
  | false =>
   simp only [go_sem, hA]
   exact ⟨by unfold zf; omega, l.length - (q + 1), by omega, q + 1, by omega, rfl, zbq hlt hf hx, rfl⟩
 ·have k1 : decide ((q : Int) < (l.length : Int)) = false := decide_eq_false (by omega)
  obtain rfl : q = l.length := by omega
  rw [List.take_length] at hf
  have hr : ixF p l = -1 := by unfold ixF; rw [hf]; rfl
  simp only [go_sem, hA, ziD, k1, hr, Tryz.results74]
theorem zsu (l : List Fl) (f : FuncId) (cs : List AV) (p : Fl → Bool) (hcs : zz cs = true) (hcl : zX cs = some cs) (hl : l.length ≤ 1048576) (hp : ∀ x ∈ l, Con Tryz.prog f (avF x :: cs) (.d (.raw (.bool (p x))))) : Con Tryz.prog 29 [.d (.sl (zW l)), .fn f cs] (.d (.raw (.bool (l.any p)))) := by
 refine zj Tryz.func29 rfl (by decide +kernel) rfl (by simp only [go_sem, hcs]) (by simp [Tryz.ntmps29]) fun A hA => ?_
 rw [Tryz.ntmps29] at hA
 refine goC 400 ?_
 simp only [go_sem, hA]
 refine zc 400 (zzO l f cs p hcs hcl hl hp) rfl (by simp only [go_sem, hcl]) (by simp only [go_sem, hA]) ?_
 simp only [go_sem, hA, zmW, Tryz.results29]
abbrev zlk (f : FuncId) (cs : List AV) (l : List Mo) (q : Nat) : St := ⟨[(0, .d (.sl (zbd l))), (1, .fn f cs), (7, .d (.raw (.int .i64 l.length))), (8, .d (.raw (.int .i64 q)))], [], []⟩
theorem zCj (l : List Mo) (f : FuncId) (cs : List AV) (p : Mo → Bool) (hcs : zz cs = true) (hcl : zX cs = some cs) (hl : l.length ≤ 1048576) (hp : ∀ x ∈ l, Con Tryz.prog f (avM x :: cs) (.d (.raw (.bool (p x))))) : Con Tryz.prog 41 [.d (.sl (zbd l)), .fn f cs] (.d (.raw (.int .i64 (ixF p l)))) := by
 refine zj Tryz.func41 rfl (by decide +kernel) rfl (by simp only [go_sem, hcs]) (by simp [Tryz.ntmps41]) fun A hA => ?_
 rw [Tryz.ntmps41] at hA
 refine goC 400 ?_
 simp only [go_sem, hA, zv]
 refine ze [0, 1, 7, 8] [] [] (fun y σ => ∃ q : Nat, q ≤ l.length ∧ y = l.length - q ∧ (l.take q).any p = false ∧ σ = zlk f cs l q) l.length ⟨0, by omega, by omega, rfl, by simp only [go_sem, zlk]⟩ ?_
 rintro y σ ⟨q, hq, rfl, hf, rfl⟩
 refine goC 400 ?_
 by_cases hlt : q < l.length
 ·have k1 : decide ((q : Int) < (l.length : Int)) = true := decide_eq_true (by omega)
  have hc := hp l[q] (List.getElem_mem hlt)
  simp only [go_sem, hA, zlk, zv, k1, Int.toNat_natCast, zbm l q hlt, zfh]
  refine ⟨⟨by omega, by omega⟩, ?_⟩
  refine zfH 400 (cs := cs) hc rfl rfl (by simp only [go_sem]) (by simp only [go_sem, hcl, avM]) (by simp only [go_sem, hA]) ?_
  cases hx : p l[q] with
  | true => simp only [go_sem, hA, zll hlt hf hx, Tryz.results41]
  | false =>
   simp only [go_sem, hA]
   exact ⟨by unfold zf; omega, l.length - (q + 1), by omega, q + 1, by omega, rfl, zbq hlt hf hx, rfl⟩
 ·have k1 : decide ((q : Int) < (l.length : Int)) = false := decide_eq_false (by omega)
  obtain rfl : q = l.length := by omega
  rw [List.take_length] at hf
  have hr : ixF p l = -1 := by unfold ixF; rw [hf]; rfl
  simp only [go_sem, hA, zlk, k1, hr, Tryz.results41]
abbrev ziC (f : FuncId) (cs : List AV) (l : List Tc) (q : Nat) : St := ⟨[(0, .d (.sl (zaI l))), (1, .fn f cs), (7, .d (.raw (.int .i64 l.length))), (8, .d (.raw (.int .i64 q)))], [], []⟩
theorem zzN (l : List Tc) (f : FuncId) (cs : List AV) (p : Tc → Bool) (hcs : zz cs = true) (hcl : zX cs = some cs) (hl : l.length ≤ 1048576) (hp : ∀ x ∈ l, Con Tryz.prog f (avC x :: cs) (.d (.raw (.bool (p x))))) : Con Tryz.prog 94 [.d (.sl (zaI l)), .fn f cs] (.d (.raw (.int .i64 (ixF p l)))) := by
 refine zj Tryz.func94 rfl (by decide +kernel) rfl (by simp only [go_sem, hcs]) (by simp [Tryz.ntmps94]) fun A hA => ?_
 rw [Tryz.ntmps94] at hA
 refine goC 400 ?_
 simp only [go_sem, hA, zq]
 refine ze [0, 1, 7, 8] [] [] (fun y σ => ∃ q : Nat, q ≤ l.length ∧ y = l.length - q ∧ (l.take q).any p = false ∧ σ = ziC f cs l q) l.length ⟨0, by omega, by omega, rfl, by simp only [go_sem, ziC]⟩ ?_
 rintro y σ ⟨q, hq, rfl, hf, rfl⟩
 refine goC 400 ?_
 by_cases hlt : q < l.length
 ·have k1 : decide ((q : Int) < (l.length : Int)) = true := decide_eq_true (by omega)
  have hc := hp l[q] (List.getElem_mem hlt)
  simp only [go_sem, hA, ziC, zq, k1, Int.toNat_natCast, zbP l q hlt, zgs]
  refine ⟨⟨by omega, by omega⟩, ?_⟩
  refine zfH 400 (cs := cs) hc rfl rfl (by simp only [go_sem]) (by simp only [go_sem, hcl, avC]) (by simp only [go_sem, hA]) ?_
  cases hx : p l[q] with
  | true => simp only [go_sem, hA, zll hlt hf hx, Tryz.results94]
  | false =>
   simp only [go_sem, hA]
   exact ⟨by unfold zf; omega, l.length - (q + 1), by omega, q + 1, by omega, rfl, zbq hlt hf hx, rfl⟩
 ·have k1 : decide ((q : Int) < (l.length : Int)) = false := decide_eq_false (by omega)
  obtain rfl : q = l.length := by omega
  rw [List.take_length] at hf
  have hr : ixF p l = -1 := by unfold ixF; rw [hf]; rfl
  simp only [go_sem, hA, ziC, k1, hr, Tryz.results94]
end
section
open Go Go.RowKit
def bsR (lt : Nat → Bool) : Nat → Nat → Nat → Nat
 | 0, i, _ => i
 | k + 1, i, j => if i < j then (if lt ((i + j) / 2) then bsR lt k ((i + j) / 2 + 1) j else bsR lt k i ((i + j) / 2)) else i
theorem zvw (lt : Nat → Bool) : ∀ k i j, i ≤ j → i ≤ bsR lt k i j ∧ bsR lt k i j ≤ j
 | 0, i, j, h => ⟨Nat.le_refl _, h⟩
 | k + 1, i, j, h => by
  rw [bsR]
  split
  ·split
   ·have := zvw lt k ((i + j) / 2 + 1) j (by omega); omega
   ·have := zvw lt k i ((i + j) / 2) (by omega); omega
  ·omega
theorem zja (lt : Nat → Bool) (k : Nat) {i j : Nat} (h : ¬ i < j) : bsR lt k i j = i := by
 cases k with
 | zero => rfl
 | succ k => rw [bsR, if_neg h]
theorem zgv (lt : Nat → Bool) : ∀ k k' i j, j - i ≤ k → j - i ≤ k' → bsR lt k i j = bsR lt k' i j
 | 0, k', i, j, h, _ => by rw [zja lt 0 (by omega), zja lt k' (by omega)]
 | k + 1, 0, i, j, _, h => by rw [zja lt 0 (by omega), zja lt (k + 1) (by omega)]
 | k + 1, k' + 1, i, j, h, h' => by
  rw [bsR, bsR]
  by_cases hlt : i < j
  ·rw [if_pos hlt, if_pos hlt, zgv lt k k' ((i + j) / 2 + 1) j (by omega) (by omega), zgv lt k k' i ((i + j) / 2) (by omega) (by omega)]
  ·rw [if_neg hlt, if_neg hlt]
theorem zBe (lt : Nat → Bool) {i j R : Nat} (hij : i < j) (hR : ∀ k, j - i ≤ k → bsR lt k i j = R) : if lt ((i + j) / 2) then ∀ k, j - ((i + j) / 2 + 1) ≤ k → bsR lt k ((i + j) / 2 + 1) j = R else ∀ k, (i + j) / 2 - i ≤ k → bsR lt k i ((i + j) / 2) = R := by
 have h := hR (j - i + 1) (by omega)
 rw [bsR, if_pos hij] at h
 split
 ·rename_i hl
  rw [if_pos hl] at h
  exact fun k hk => (zgv lt k (j - i) _ _ hk (by omega)).trans h
 ·rename_i hl
  rw [if_neg hl] at h
  exact fun k hk => (zgv lt k (j - i) _ _ hk (by omega)).trans h
def zfK (l : List Fl) (s : ByteArray) (h : Nat) : Bool := match l[h]? with
 | some x => decide (zqO x.path s < 0)
 | none => false
def zby (l : List Fl) (s : ByteArray) : Nat := bsR (zfK l s) l.length 0 l.length
def zdr (l : List Fl) (s : ByteArray) : Bool := match l[zby l s]? with
 | some x => decide (zqO x.path s = 0)
 | none => false
abbrev zBd (l : List Fl) (s : ByteArray) (i j : Nat) : St := ⟨[(0, .d (.sl (zW l))), (1, .d (.raw (.string s))), (2, .fn 80 []), (8, .d (.raw (.int .i64 l.length))), (9, .d (.raw (.int .i64 i))), (10, .d (.raw (.int .i64 j)))], [], []⟩
theorem zzV (i j : Nat) (h : i + j < 4611686018427387904) : IntKind.i64.wrap ((IntKind.u64.wrap ((i : Int) + (j : Int))).fdiv (2 ^ min 1 64)) = (((i + j) / 2 : Nat) : Int) := by
 have h1 : IntKind.u64.wrap ((i : Int) + (j : Int)) = ((i + j : Nat) : Int) := by
  rw [IntKind.wrap_u64]; omega
 have h2 : ((2 : Int) ^ min 1 64) = 2 := rfl
 rw [h1, h2, zfp (by unfold zf; rw [Int.fdiv_eq_ediv_of_nonneg _ (by decide)]; omega), Int.fdiv_eq_ediv_of_nonneg _ (by decide)]
 omega
theorem zyC (l : List Fl) (s : ByteArray) (hl : l.length ≤ 1048576) : Con Tryz.prog 79 [.d (.sl (zW l)), .d (.raw (.string s)), .fn 80 []] (.tup [.d (.raw (.int .i64 (zby l s))), .d (.raw (.bool (zdr l s)))]) := by
 refine zj Tryz.func79 rfl (by decide +kernel) rfl rfl (by simp [Tryz.ntmps79]) fun A hA => ?_
 rw [Tryz.ntmps79] at hA
 refine goC 400 ?_
 simp only [go_sem, hA, zh]
 refine ze [0, 1, 2, 8, 9, 10] [] [] (fun y σ => ∃ i j : Nat, i ≤ j ∧ j ≤ l.length ∧ y = j - i ∧ (∀ k, j - i ≤ k → bsR (zfK l s) k i j = zby l s) ∧ σ = zBd l s i j) l.length ⟨0, l.length, by omega, by omega, by omega, fun k hk => zgv _ _ _ _ _ hk (by omega), by simp only [go_sem, zBd]⟩ ?_
 rintro y σ ⟨i, j, hij, hj, rfl, hR, rfl⟩
 refine goC 400 ?_
 by_cases hlt : i < j
 ·have k1 : decide ((i : Int) < (j : Int)) = true := decide_eq_true (by omega)
  have hh := zzV i j (by omega)
  have hm : (i + j) / 2 < l.length := by omega
  have hb := zBe (zfK l s) hlt hR
  have hfl : zfK l s ((i + j) / 2) = decide (zqO l[(i + j) / 2].path s < 0) := by unfold zfK; rw [List.getElem?_eq_getElem hm]
  rw [hfl] at hb
  simp only [go_sem, hA, zBd, k1, zh, hh, Int.toNat_natCast, zam l _ hm]
  refine ⟨by unfold zf; omega, ⟨by omega, by omega⟩, ?_⟩
  refine zfH 400 (cs := []) (zpg l[(i + j) / 2] s) rfl rfl (by simp only [go_sem]) (by simp only [go_sem, avF]) (by simp only [go_sem, hA]) ?_
  cases hx : decide (zqO l[(i + j) / 2].path s < 0) with
  | true =>
   rw [hx, if_pos rfl] at hb
   simp only [go_sem, hA, hx]
   exact ⟨by unfold zf; omega, j - ((i + j) / 2 + 1), by omega, (i + j) / 2 + 1, j, by omega, hj, rfl, hb, rfl⟩
  | false =>
   rw [hx, if_neg (by simp)] at hb
   simp only [go_sem, hA, hx]
   exact ⟨(i + j) / 2 - i, by omega, i, (i + j) / 2, by omega, by omega, rfl, hb, rfl⟩
 ·have k1 : decide ((i : Int) < (j : Int)) = false := decide_eq_false (by omega)
  have hi : zby l s = i := by rw [← hR 0 (by omega)]; rfl
  by_cases hil : i < l.length
  ·have k2 : decide ((i : Int) < (l.length : Int)) = true := decide_eq_true (by omega)
   have hf : zdr l s = decide (zqO l[i].path s = 0) := by unfold zdr; rw [hi, List.getElem?_eq_getElem hil]
   simp only [go_sem, hA, zBd, k1, k2, zh, Int.toNat_natCast, zam l i hil]
   refine ⟨⟨by omega, by omega⟩, ?_⟩
   refine zfH 400 (cs := []) (zpg l[i] s) rfl rfl (by simp only [go_sem]) (by simp only [go_sem, avF]) (by simp only [go_sem, hA]) ?_
   simp only [go_sem, hA, hi, hf, Tryz.results79]
  ·have k2 : decide ((i : Int) < (l.length : Int)) = false := decide_eq_false (by omega)
   have hf : zdr l s = false := by unfold zdr; rw [hi, List.getElem?_eq_none (by omega)]
   simp only [go_sem, hA, zBd, k1, k2, hi, hf, undef, Tryz.results79]
theorem zvp (l : List Fl) (s : ByteArray) (hl : l.length ≤ 1048576) : Con Tryz.prog 33 [.d (.sl (zW l)), .d (.raw (.string s))] (.tup [.d (.raw (.int .i64 (zby l s))), .d (.raw (.bool (zdr l s)))]) := by
 refine zj Tryz.func33 rfl (by decide +kernel) rfl rfl (by simp [Tryz.ntmps33]) fun A hA => ?_
 rw [Tryz.ntmps33] at hA
 refine goC 400 ?_
 simp only [go_sem, hA]
 refine zc 400 (zyC l s hl) rfl (by simp only [go_sem]) (by simp only [go_sem, hA]) ?_
 simp only [go_sem, hA, Tryz.results33]
end
end Go.Proofs.YtpnjjmcimjlfkaaGreatDoor
