/- Texts of this proof, part 22: what the proof uses of them. -/
import Derived.Test.YtpnjjmcimjlfkaaGreatDoorCau
import Derived.Test.YtpnjjmcimjlfkaaGreatDoorCam
import Derived.Test.YtpnjjmcimjlfkaaGreatDoorCal
import Derived.Test.YtpnjjmcimjlfkaaGreatDoorCao
import Derived.Test.YtpnjjmcimjlfkaaGreatDoorCat
set_option maxRecDepth 100000
set_option maxHeartbeats 64000000
namespace Go.Proofs.YtpnjjmcimjlfkaaGreatDoor
section
open Go Go.RowKit
mutual
theorem zmE (side : Nat) : ∀ (t : Ex) (j : Int), zb (zea side t j).1 ≤ zb t
 | .mk k n m i d s, j => by
  have h1 := fun j => zmD side s j
  have h2 : zb (s.getD side zhs) ≤ nodesL s + 1 := by
   rw [List.getD_eq_getElem?_getD]
   cases h : s[side]? with
   | none => simp [zhs, zb, nodesL]
   | some x =>
    have hx := List.mem_of_getElem? h
    have := zmI hx
    simp only [Option.getD_some]; omega
  rw [zea, zb]
  split
  ·split
   ·simp only; omega
   ·have := h1 (j - 1)
    simp only [zb]; omega
  ·have := h1 j
   simp only [zb]; omega
theorem zmD (side : Nat) : ∀ (l : List Ex) (j : Int), nodesL (zab side l j).1 ≤ nodesL l
 | [], j => by rw [zab]; exact Nat.le_refl _
 | e :: es, j => by
  rw [zab]
  split
  ·exact Nat.le_refl _
  ·have h1 := zmE side e j
   have h2 := zmD side es (zea side e j).2
   simp only [nodesL]; omega
end
theorem zrc {l : List Fl} (h : zbW l = 0) : l.length ≤ 200 := by
 unfold zbW at h
 split at h
 ·cases h
 ·omega
theorem zos {m : Mg} (h : zG m = 0) : zbW m.fs = 0 := by
 unfold zG at h
 split at h
 ·exact absurd h (by assumption)
 split at h
 ·exact absurd h (by assumption)
 ·rename_i h2; exact Classical.not_not.1 h2
theorem zwL (l : List Tc) (i : Nat) (h : i < l.length) : atC l i ∈ l := by rw [zcV l i h]; exact List.getElem_mem h
theorem zqU (l : List Mo) (i : Nat) (h : i < l.length) : atM l i ∈ l := by rw [zcw l i h]; exact List.getElem_mem h
theorem zpb {l : List Fl} {i : Nat} {x y : Fl} (h : y ∈ zes l i x) : y ∈ l ∨ y = x := by
 unfold zes at h
 rcases List.mem_append.1 h with h | h
 ·exact .inl (List.mem_of_mem_take h)
 ·rcases List.mem_cons.1 h with h | h
  ·exact .inr h
  ·exact .inl (List.mem_of_mem_drop h)
theorem zxX {l : List Fl} {i : Nat} {x : Fl} : (zes l i x).length = l.length + 1 := by
 unfold zes
 rw [List.length_append, List.length_cons, List.length_take, List.length_drop]; omega
theorem zwV (c : Tc) (k : Nat) : zaE c k = c.left ∨ zaE c k = c.base ∨ zaE c k = c.right := by
 unfold zaE zeS
 split
 ·exact .inl rfl
 ·split
  ·exact .inr (.inl rfl)
  ·exact .inr (.inr rfl)
theorem zkz {m : Mg} {path : ByteArray} (h : m.ts.any (zaH path) = true) : m.ts.findIdx (zaH path) < m.ts.length ∧ (atC m.ts (m.ts.findIdx (zaH path))).path = path := by
 have h1 := (zqz h).2
 refine ⟨h1, ?_⟩
 rw [zcV _ _ h1]
 have := List.findIdx_getElem (xs := m.ts) (p := zaH path) (w := h1)
 simpa [zaH] using this
theorem zoZ {m : Mg} {label : ByteArray} (h : m.ms.any (zbM label) = true) : m.ms.findIdx (zbM label) < m.ms.length ∧ (atM m.ms (m.ms.findIdx (zbM label))).label = label := by
 have h1 := (zqz h).2
 refine ⟨h1, ?_⟩
 rw [zcw _ _ h1]
 have := List.findIdx_getElem (xs := m.ms) (p := zbM label) (w := h1)
 simpa [zbM] using this
theorem zyg {m : Mg} (hg : m.Good) (h0 : zG m = 0) {path : ByteArray} (h : m.ts.any (zaH path) = true) (k : Nat) : (zho m path (m.ts.findIdx (zaH path)) k).Good := by
 obtain ⟨h1, h2⟩ := zkz h
 have h3 := zrc (zos h0)
 have h4 := hg.fine.tp _ (zwL _ _ h1)
 have hf := hg.fine
 have htm : ∀ x ∈ m.ts.take (m.ts.findIdx (zaH path)) ++ m.ts.drop (m.ts.findIdx (zaH path) + 1), x ∈ m.ts := fun x hx => by
  rcases List.mem_append.1 hx with h | h
  ·exact List.mem_of_mem_take h
  ·exact List.mem_of_mem_drop h
 refine ⟨⟨hf.ml, ?_, hf.bd, ?_, fun x hx => hf.tp x (htm x hx)⟩, ?_, hg.dl⟩
 ·unfold zho
  dsimp only
  split
  ·rw [zxX]; omega
  ·exact hf.fl
 ·intro x hx
  unfold zho at hx
  dsimp only at hx
  split at hx
  ·rcases zpb hx with h | rfl
   ·exact hf.fp x h
   ·refine ⟨by rw [← h2]; exact h4.1, ?_⟩
    rcases zwV (atC m.ts (m.ts.findIdx (zaH path))) k with h | h | h <;> rw [h]
    ·exact h4.2.2.1
    ·exact h4.2.1
    ·exact h4.2.2.2
  ·exact hf.fp x hx
 ·show (m.ts.take _ ++ m.ts.drop _).length ≤ _
  have := hg.tl
  rw [List.length_append, List.length_take, List.length_drop]; omega
theorem zsj (d : Dc) (nm : ByteArray) : zb (nmX d nm).1.body ≤ zb d.body := by
 unfold nmX
 split
 ·exact Nat.le_refl _
 ·exact zcO d.body
theorem ztC (d : Dc) (s : Sq) (k : Nat) : zb (zey d s k).1.body ≤ zb d.body := by
 unfold zey
 split
 ·exact zsj _ _
 split
 ·split
  ·show zb (zda d.body s.pos k).1 ≤ _
   unfold zda
   split
   ·split
    ·exact zcO d.body
    ·exact zmE _ _ _
   ·exact zcO d.body
  ·exact zcO d.body
 split
 ·exact zcO d.body
 split
 ·exact Nat.le_refl _
 ·exact zsj _ _
theorem zxN (x : Mo) (s : Sq) (k : Nat) : (zdD x s k).1.decls.length ≤ x.decls.length ∧ ∀ N, (∀ d ∈ x.decls, zb d.body ≤ N) → ∀ d ∈ (zdD x s k).1.decls, zb d.body ≤ N := by
 have z : zex.decls.length ≤ x.decls.length ∧ ∀ N, (∀ d ∈ x.decls, zb d.body ≤ N) → ∀ d ∈ zex.decls, zb d.body ≤ N := ⟨Nat.zero_le _, fun N _ d hd => by cases hd⟩
 unfold zdD
 split
 ·exact z
 split
 ·exact z
 split
 ·exact z
 split
 ·exact z
 refine ⟨ziB s k x.decls _, fun N hN d hd => ?_⟩
 obtain ⟨e, he, hd⟩ := List.mem_flatMap.1 (show d ∈ (x.decls.take _).flatMap (zkx s k) from hd)
 have heN := hN e (List.mem_of_mem_take he)
 unfold zkx at hd
 split at hd
 ·split at hd
  ·rw [List.mem_singleton.1 hd]; exact Nat.le_trans (ztC e s k) heN
  ·cases hd
 ·rw [List.mem_singleton.1 hd]; exact heN
theorem zzp {m : Mg} (hg : m.Good) (a : Nat) (ha : a < m.ms.length) (s : Sq) (k : Nat) : (zmj m a (zdD (atM m.ms a) s k).1).Good := by
 have hf := hg.fine
 have hm := zxN (atM m.ms a) s k
 have key : ∀ x ∈ m.ms.set a (zdD (atM m.ms a) s k).1, x ∈ m.ms ∨ x = (zdD (atM m.ms a) s k).1 := fun x hx => List.mem_or_eq_of_mem_set hx
 refine ⟨⟨by simpa [zmj] using hf.ml, hf.fl, fun x hx => ?_, hf.fp, hf.tp⟩, hg.tl, fun x hx => ?_⟩
 ·rcases key x hx with h | rfl
  ·exact hf.bd x h
  ·exact hm.2 _ (hf.bd _ (zqU _ _ ha))
 ·rcases key x hx with h | rfl
  ·exact hg.dl x h
  ·exact Nat.le_trans hm.1 (hg.dl _ (zqU _ _ ha))
theorem zto : zek.Good := ⟨⟨Nat.zero_le _, Nat.zero_le _, fun x hx => (by cases hx), fun x hx => (by cases hx), fun x hx => (by cases hx)⟩, Nat.zero_le _, fun x hx => (by cases hx)⟩
theorem zwZ {m : Mg} (hg : m.Good) (h0 : zG m = 0) {s : Sq} (hs : s ∈ zaG m) (k : Nat) : (zaR m s k).1.Good := by
 unfold zaR
 split
 ·exact zyg hg h0 (zre hs (by assumption)) k
 split
 ·exact zzp hg _ (zoZ (zwm hs (by assumption))).1 s k
 ·exact zto
end
section
open Go Go.RowKit
theorem zyl (l : List Mo) (a : Nat) (x : Mo) : (zbd l).set a (zfh x) = zbd (l.set a x) := by simp [zbd, List.map_set]
theorem zAB (m : Mg) (hg : m.Good) (i side : Int) : Con Tryz.prog 14 [avG m, .d (.raw (.int .i64 i)), .d (.raw (.int .i64 side))] (.tup [avG (ziS m i side).1, .d (.raw (.int .i64 (ziS m i side).2))]) := by
 refine zqM Tryz.func14 rfl (by decide +kernel) rfl rfl (by simp [Tryz.ntmps14]) fun A hA hAX => ?_
 rw [Tryz.ntmps14] at hA
 have hr0 : ziS m i side = if ¬ zG m = 0 then (zek, zG m)
  else if i < 0 ∨ ((zaG m).length : Int) ≤ i ∨ side < 0 ∨ 2 < side then (zek, 2)
  else if ¬ (zaR m (atQ (zaG m) i.toNat) side.toNat).2 = 0 then (zek, (zaR m (atQ (zaG m) i.toNat) side.toNat).2)
  else if ¬ zG (zaR m (atQ (zaG m) i.toNat) side.toNat).1 = 0 then (zek, zG (zaR m (atQ (zaG m) i.toNat) side.toNat).1)
  else ((zaR m (atQ (zaG m) i.toNat) side.toNat).1, 0) := rfl
 refine goC 400 ?_
 simp only [go_sem, hA, avG]
 refine zc 400 (zdU m hg.fine) rfl (by simp only [go_sem, avG]) (by simp only [go_sem, hA]) ?_
 by_cases h0 : zG m = 0
 case neg =>
  have g1 : (decide ¬ zG m = 0) = true := decide_eq_true h0
  rw [if_pos h0] at hr0
  simp only [go_sem, hA, g1, hr0, Tryz.results14]
  rfl
 have g1 : (decide ¬ zG m = 0) = false := by simp [h0]
 rw [if_neg (by simp [h0])] at hr0
 simp only [go_sem, hA, g1]
 have hll := zvL m hg.fine.ml hg.tl (fun x hx => ⟨hg.dl x hx, hg.fine.bd x hx⟩) (fun x _ => zjM x) (zju m hg.fine.ml)
 rw [zoU] at hll
 refine zc 400 hll rfl (by simp only [go_sem, avG]) (by simp only [go_sem, hA]) ?_
 by_cases h1 : i < 0 ∨ ((zaG m).length : Int) ≤ i ∨ side < 0 ∨ 2 < side
 ·rw [if_pos h1] at hr0
  by_cases a1 : i < 0
  ·have d1 := decide_eq_true a1
   simp only [go_sem, hA, d1, undef, hr0, Tryz.results14]
   rfl
  have d1 := decide_eq_false a1
  by_cases a2 : ((zaG m).length : Int) ≤ i
  ·have d2 := decide_eq_true a2
   simp only [go_sem, hA, d1, d2, undef, zB, hr0, Tryz.results14]
   rfl
  have d2 := decide_eq_false a2
  by_cases a3 : side < 0
  ·have d3 := decide_eq_true a3
   simp only [go_sem, hA, d1, d2, d3, undef, zB, hr0, Tryz.results14]
   rfl
  have d3 := decide_eq_false a3
  have d4 : decide (2 < side) = true := decide_eq_true (by omega)
  simp only [go_sem, hA, d1, d2, d3, d4, zB, hr0, Tryz.results14]
  rfl
 rw [if_neg h1] at hr0
 obtain ⟨ni, rfl⟩ : ∃ n : Nat, i = n := ⟨i.toNat, by omega⟩
 obtain ⟨k, rfl⟩ : ∃ n : Nat, side = n := ⟨side.toNat, by omega⟩
 have hk : k < 3 := by omega
 have hlt : ni < (zaG m).length := by omega
 have d1 : decide ((ni : Int) < 0) = false := decide_eq_false (by omega)
 have d2 : decide (((zaG m).length : Int) ≤ (ni : Int)) = false := decide_eq_false (by omega)
 have d3 : decide ((k : Int) < 0) = false := decide_eq_false (by omega)
 have d4 : decide (2 < (k : Int)) = false := decide_eq_false (by omega)
 have hat := zCV (zaG m) ni hlt
 have hs : (zaG m)[ni] ∈ zaG m := List.getElem_mem hlt
 have henc := zee (zaG m) ni hlt
 simp only [Int.toNat_natCast, hat] at hr0
 generalize (zaG m)[ni] = s at hr0 hs henc
 have hgood := zwZ hg h0 hs k
 simp only [go_sem, hA, d1, d2, d3, d4, zB, Int.toNat_natCast, henc, zhP, spR]
 refine ⟨⟨by omega, by omega⟩, ?_⟩
 by_cases h5 : s.kind = 5
 ·obtain ⟨hx1, hx2⟩ := zqz (zre hs h5)
  have hst : zaR m s k = (zho m s.label (m.ts.findIdx (zaH s.label)) k, 0) := if_pos h5
  rw [hst, if_neg (by simp)] at hr0
  rw [hst] at hgood
  have d5 : decide (s.kind = 5) = true := decide_eq_true h5
  have hfew := zrc (zos h0)
  simp only [go_sem, hA, d5]
  refine zc 400 (zqP m s.label k _ hk hx2 hx1 hg.tl hg.fine.fl) rfl (by simp only [go_sem, avG]) (by simp only [go_sem, hA]) ?_
  simp only at hr0 hgood
  generalize zho m s.label (m.ts.findIdx (zaH s.label)) k = m' at hr0 hgood
  simp only [go_sem, hA, avG]
  refine zc 400 (zdU m' hgood.fine) rfl (by simp only [go_sem, avG]) (by simp only [go_sem, hA]) ?_
  by_cases h6 : zG m' = 0
  ·have g6 : (decide ¬ zG m' = 0) = false := by simp [h6]
   rw [if_neg (by simp [h6])] at hr0
   simp only [go_sem, hA, g6, hr0, Tryz.results14]
  ·have g6 : (decide ¬ zG m' = 0) = true := decide_eq_true h6
   rw [if_pos h6] at hr0
   simp only [go_sem, hA, g6, hr0, Tryz.results14]
   rfl
 ·obtain ⟨hx1, hx2⟩ := zqz (zwm hs h5)
  have d5 : decide (s.kind = 5) = false := decide_eq_false h5
  have hst : zaR m s k = if (zdD (atM m.ms (m.ms.findIdx (zbM s.label))) s k).2 = 0 then (zmj m (m.ms.findIdx (zbM s.label)) (zdD (atM m.ms (m.ms.findIdx (zbM s.label))) s k).1, 0) else (zek, (zdD (atM m.ms (m.ms.findIdx (zbM s.label))) s k).2) := if_neg h5
  have hix := zCj m.ms 42 [.at_ (zhP s)] (zbM s.label) rfl rfl hg.fine.ml fun x _ => zCL x s
  rw [hx1] at hix
  generalize m.ms.findIdx (zbM s.label) = a at hix hx2 hst
  have hma := zcw m.ms a hx2
  have hmb := zCg h0 _ (List.getElem_mem hx2)
  rw [hma] at hst
  simp only [go_sem, hA, d5]
  refine zzY 7004 ?_
  simp only [go_sem]
  refine zc 400 hix rfl (by simp only [go_sem, zhP, spR]) (by simp only [go_sem, hA]) ?_
  simp only [go_sem, hA, zv, Int.toNat_natCast, zbm m.ms a hx2, zfh, mixed]
  refine ⟨⟨by omega, by omega⟩, ?_⟩
  refine zbk 400 (zsp m.ms[a] s k hk (hg.dl _ (List.getElem_mem hx2)) (hg.fine.bd _ (List.getElem_mem hx2)) (Nat.le_trans (zjL hmb) (by decide))) rfl (by simp only [go_sem, avM, avQ]) (by simp only [go_sem, hA]) ?_
  generalize zdD m.ms[a] s k = r at hst
  obtain ⟨x, er⟩ := r
  simp only at hst
  simp only [go_sem, hA, avM]
  refine ⟨by show chk _ _ _ = true; kernel_rfl, ?_⟩
  by_cases he : er = 0
  case neg =>
   have de : decide (¬ er = 0) = true := decide_eq_true he
   rw [if_neg he] at hst
   rw [hst, if_pos he] at hr0
   simp only [go_sem, hA, de, hr0, Tryz.results14]
   rfl
  subst he
  rw [if_pos rfl] at hst
  rw [hst] at hr0 hgood
  rw [if_neg (by simp)] at hr0
  simp only at hr0 hgood
  simp only [go_sem, hA]
  refine zCv 38 (zAv m.ms hg.fine.ml) rfl rfl (by simp only [go_sem]) (by simp only [go_sem]) (by simp only [go_sem, hA]) (by simp only [go_sem]) ?_
  have hrow : (zbd m.ms).getD a [] = zfh m.ms[a] := zbm m.ms a hx2
  simp only [go_sem, hA, zv, Int.toNat_natCast, Nat.zero_add, hrow, zfh]
  refine ⟨⟨by omega, by omega⟩, hx2, ?_⟩
  refine zkg hAX.2 14002 0 0 (rows := zbd (m.ms.set a x)) (by simp only [go_sem] <;> rfl) rfl (by simp only [go_sem, ← zyl, zfh] <;> rfl) (by rw [zv, List.length_set]) ?_
  generalize hm' : zmj m a x = m' at hr0 hgood
  have e1 : zbd (m.ms.set a x) = zbd m'.ms := by rw [← hm']; rfl
  have e2 : zW m.fs = zW m'.fs := by rw [← hm']; rfl
  have e3 : zaI m.ts = zaI m'.ts := by rw [← hm']; rfl
  rw [e1]
  refine goC 400 ?_
  simp only [go_sem, hA, e2, e3]
  refine zc 400 (zdU m' hgood.fine) rfl (by simp only [go_sem, avG]) (by simp only [go_sem, hA]) ?_
  by_cases h6 : zG m' = 0
  ·have g6 : (decide ¬ zG m' = 0) = false := by simp [h6]
   rw [if_neg (by simp [h6])] at hr0
   simp only [go_sem, hA, g6, hr0, Tryz.results14]
  ·have g6 : (decide ¬ zG m' = 0) = true := decide_eq_true h6
   rw [if_pos h6] at hr0
   simp only [go_sem, hA, g6, hr0, Tryz.results14]
   rfl
end
section
open Go Go.RowKit
def zgk (l : List ByteArray) : Bool := decide (10 < l.length) || l.any fun s => decide (120 < s.size)
def zdH (d : Dc) : Bool := decide (5 < d.names.length) || zgl d.body || d.names.any fun s => decide (100 < s.size)
def zdG (l : List Dc) : Bool := decide (8 < l.length) || l.any zdH
abbrev zzW (l : List ByteArray) (q : Nat) : St := ⟨[(0, .d (.sl (zt l))), (3, .d (.raw (.int .i64 q)))], [], []⟩
theorem zpW (l : List ByteArray) : Con Tryz.prog 62 [.d (.sl (zt l))] (.d (.raw (.bool (zgk l)))) := by
 refine zj Tryz.func62 rfl (by decide +kernel) rfl rfl (by simp [Tryz.ntmps62]) fun A hA => ?_
 rw [Tryz.ntmps62] at hA
 refine goC 400 ?_
 by_cases h1 : 10 < l.length
 ·have g1 : decide ((10 : Int) < (l.length : Int)) = true := decide_eq_true (by omega)
  have he : zgk l = true := by unfold zgk; rw [decide_eq_true h1]; rfl
  simp only [go_sem, hA, za, g1, he, Tryz.results62]
 have g1 : decide ((10 : Int) < (l.length : Int)) = false := decide_eq_false (by omega)
 have he : zgk l = l.any fun s => decide (120 < s.size) := by unfold zgk; rw [decide_eq_false h1]; rfl
 simp only [go_sem, hA, za, g1]
 refine ze [0, 3] [] [] (fun y σ => ∃ q : Nat, q ≤ l.length ∧ y = l.length - q ∧ ((l.take q).any fun s => decide (120 < s.size)) = false ∧ σ = zzW l q) l.length ⟨0, by omega, by omega, rfl, by simp only [go_sem, zzW]⟩ ?_
 rintro y σ ⟨q, hq, rfl, hf, rfl⟩
 refine goC 400 ?_
 by_cases hlt : q < l.length
 ·have k1 : decide ((q : Int) < (l.length : Int)) = true := decide_eq_true (by omega)
  by_cases h2 : 120 < l[q].size
  ·have k2 : decide ((120 : Int) < (l[q].size : Int)) = true := decide_eq_true (by omega)
   rw [zgV hlt (decide_eq_true h2)] at he
   simp only [go_sem, hA, zzW, za, k1, Int.toNat_natCast, zJ l q hlt, k2, he, Tryz.results62]
   exact ⟨by omega, by omega⟩
  ·have k2 : decide ((120 : Int) < (l[q].size : Int)) = false := decide_eq_false (by omega)
   simp only [go_sem, hA, zzW, za, k1, Int.toNat_natCast, zJ l q hlt, k2]
   exact ⟨⟨by omega, by omega⟩, by unfold zf; omega, l.length - (q + 1), by omega, q + 1, by omega, rfl, zbq hlt hf (decide_eq_false h2), rfl⟩
 ·have k1 : decide ((q : Int) < (l.length : Int)) = false := decide_eq_false (by omega)
  obtain rfl : q = l.length := by omega
  rw [List.take_length] at hf
  rw [hf] at he
  simp only [go_sem, hA, zzW, za, k1, he, Tryz.results62]
abbrev zAe (l : List Dc) (q : Nat) : St := ⟨[(0, .d (.sl (zaW l))), (3, .d (.raw (.int .i64 q)))], [], []⟩
abbrev zsG (l : List Dc) (q k : Nat) : St := ⟨[(0, .d (.sl (zaW l))), (3, .d (.raw (.int .i64 q))), (4, .d (.raw (.int .i64 k)))], [], []⟩
theorem znS (l : List Dc) (hb : ∀ d ∈ l, zb d.body ≤ 1048576) : Con Tryz.prog 63 [.d (.sl (zaW l))] (.d (.raw (.bool (zdG l)))) := by
 refine zj Tryz.func63 rfl (by decide +kernel) rfl rfl (by simp [Tryz.ntmps63]) fun A hA => ?_
 rw [Tryz.ntmps63] at hA
 refine goC 400 ?_
 by_cases h1 : 8 < l.length
 ·have g1 : decide ((8 : Int) < (l.length : Int)) = true := decide_eq_true (by omega)
  have he : zdG l = true := by unfold zdG; rw [decide_eq_true h1]; rfl
  simp only [go_sem, hA, zi, g1, he, Tryz.results63]
 have g1 : decide ((8 : Int) < (l.length : Int)) = false := decide_eq_false (by omega)
 have he : zdG l = l.any zdH := by unfold zdG; rw [decide_eq_false h1]; rfl
 simp only [go_sem, hA, zi, g1]
 refine ze [0, 3] [] [] (fun y σ => ∃ q : Nat, q ≤ l.length ∧ y = l.length - q ∧ (l.take q).any zdH = false ∧ σ = zAe l q) l.length ⟨0, by omega, by omega, rfl, by simp only [go_sem, zAe]⟩ ?_
 rintro y σ ⟨q, hq, rfl, hf, rfl⟩
 refine goC 400 ?_
 by_cases hlt : q < l.length
 case neg =>
  have k1 : decide ((q : Int) < (l.length : Int)) = false := decide_eq_false (by omega)
  obtain rfl : q = l.length := by omega
  rw [List.take_length] at hf
  rw [hf] at he
  simp only [go_sem, hA, zAe, zi, k1, he, Tryz.results63]
 have k1 : decide ((q : Int) < (l.length : Int)) = true := decide_eq_true (by omega)
 obtain ⟨d, hd⟩ : ∃ d, l[q] = d := ⟨_, rfl⟩
 have cg := zzh d.body (hb d (by rw [← hd]; exact List.getElem_mem hlt))
 have hhit : zdH d = true → zdG l = true := fun h => by rw [he]; exact zgV hlt (by rw [hd]; exact h)
 by_cases h2 : 5 < d.names.length
 ·have k2 : decide ((5 : Int) < (d.names.length : Int)) = true := decide_eq_true (by omega)
  have hr := hhit (by unfold zdH; rw [decide_eq_true h2]; rfl)
  simp only [go_sem, hA, zAe, zi, za, k1, Int.toNat_natCast, zai l q hlt, hd, zdm, k2, undef, hr, Tryz.results63]
  exact ⟨by omega, by omega⟩
 have k2 : decide ((5 : Int) < (d.names.length : Int)) = false := decide_eq_false (by omega)
 simp only [go_sem, hA, zAe, zi, za, k1, Int.toNat_natCast, zai l q hlt, hd, zdm, k2]
 refine ⟨⟨by omega, by omega⟩, ⟨by omega, by omega⟩, ?_⟩
 refine zc 300 cg rfl (by simp only [go_sem, zw]) (by simp only [go_sem, hA]) ?_
 cases hg : zgl d.body with
 | true =>
  have hr := hhit (by unfold zdH; rw [hg]; simp)
  simp only [go_sem, hA, hr, Tryz.results63]
 | false =>
  have hdc : zdH d = d.names.any fun s => decide (100 < s.size) := by unfold zdH; rw [hg, decide_eq_false h2]; rfl
  simp only [go_sem, hA]
  refine ze [0, 3, 4] [] [] (fun y σ => ∃ k : Nat, k ≤ d.names.length ∧ y = d.names.length - k ∧ ((d.names.take k).any fun s => decide (100 < s.size)) = false ∧ σ = zsG l q k) d.names.length ⟨0, by omega, by omega, rfl, by simp only [go_sem, zsG]⟩ ?_
  rintro y σ ⟨k, hk, rfl, hf2, rfl⟩
  refine goC 400 ?_
  by_cases hkl : k < d.names.length
  ·have k3 : decide ((k : Int) < (d.names.length : Int)) = true := decide_eq_true (by omega)
   by_cases h4 : 100 < d.names[k].size
   ·have k4 : decide ((100 : Int) < (d.names[k].size : Int)) = true := decide_eq_true (by omega)
    have hr := hhit (by rw [hdc]; exact zgV hkl (decide_eq_true h4))
    simp only [go_sem, hA, zsG, zi, za, k3, Int.toNat_natCast, zai l q hlt, hd, zdm, zJ d.names k hkl, k4, hr, Tryz.results63]
    exact ⟨⟨by omega, by omega⟩, ⟨by omega, by omega⟩, by omega, by omega⟩
   ·have k4 : decide ((100 : Int) < (d.names[k].size : Int)) = false := decide_eq_false (by omega)
    simp only [go_sem, hA, zsG, zi, za, k3, Int.toNat_natCast, zai l q hlt, hd, zdm, zJ d.names k hkl, k4]
    exact ⟨⟨by omega, by omega⟩, ⟨by omega, by omega⟩, ⟨by omega, by omega⟩, by unfold zf; omega, d.names.length - (k + 1), by omega, k + 1, by omega, rfl, zbq hkl hf2 (decide_eq_false h4), rfl⟩
  ·have k3 : decide ((k : Int) < (d.names.length : Int)) = false := decide_eq_false (by omega)
   obtain rfl : k = d.names.length := by omega
   rw [List.take_length] at hf2
   simp only [go_sem, hA, zsG, zi, za, k3, Int.toNat_natCast, zai l q hlt, hd, zdm]
   exact ⟨⟨by omega, by omega⟩, by unfold zf; omega, l.length - (q + 1), by omega, q + 1, by omega, rfl, zbq hlt hf (by rw [hd, hdc]; exact hf2), rfl⟩
end
section
open Go Go.RowKit
def zgP (x : Fl) : Bool := decide ((120 : Int) < (x.path.size : Int)) || decide ((200 : Int) < (x.data.size : Int))
def zeF (l : List Fl) : Bool := decide (10 < l.length) || l.any zgP
def zfF (x : Mo) : Bool := decide ((120 : Int) < (x.label.size : Int)) || (zgk x.uses || zdG x.decls)
def zgO (x : Tc) : Bool := decide ((120 : Int) < (x.path.size : Int)) || (decide ((300 : Int) < (x.base.size : Int)) || (decide ((300 : Int) < (x.left.size : Int)) || decide ((300 : Int) < (x.right.size : Int))))
def zfG (m : Mg) : Bool := decide ((4 : Int) < (m.ms.length : Int)) || (zeF m.fs || (decide ((6 : Int) < (m.ts.length : Int)) || (m.ms.any zfF || m.ts.any zgO)))
abbrev zAc (l : List Fl) (q : Nat) : St := ⟨[(0, .d (.sl (zW l))), (3, .d (.raw (.int .i64 q)))], [], []⟩
theorem zxy (l : List Fl) : Con Tryz.prog 24 [.d (.sl (zW l))] (.d (.raw (.bool (zeF l)))) := by
 refine zj Tryz.func24 rfl (by decide +kernel) rfl rfl (by simp [Tryz.ntmps24]) fun A hA => ?_
 rw [Tryz.ntmps24] at hA
 refine goC 400 ?_
 by_cases h1 : 10 < l.length
 ·have g1 : decide ((10 : Int) < (l.length : Int)) = true := decide_eq_true (by omega)
  have he : zeF l = true := by unfold zeF; rw [decide_eq_true h1]; rfl
  simp only [go_sem, hA, zh, g1, he, Tryz.results24]
 have g1 : decide ((10 : Int) < (l.length : Int)) = false := decide_eq_false (by omega)
 have he : zeF l = l.any zgP := by unfold zeF; rw [decide_eq_false h1]; rfl
 simp only [go_sem, hA, zh, g1]
 refine ze [0, 3] [] [] (fun y σ => ∃ q : Nat, q ≤ l.length ∧ y = l.length - q ∧ ((l.take q).any zgP) = false ∧ σ = zAc l q) l.length ⟨0, by omega, by omega, rfl, by simp only [go_sem, zAc]⟩ ?_
 rintro y σ ⟨q, hq, rfl, hf, rfl⟩
 refine goC 400 ?_
 by_cases hlt : q < l.length
 ·have k1 : decide ((q : Int) < (l.length : Int)) = true := decide_eq_true (by omega)
  have hx : zgP l[q] = (decide ((120 : Int) < (l[q].path.size : Int)) || decide ((200 : Int) < (l[q].data.size : Int))) := rfl
  cases d1 : decide ((120 : Int) < (l[q].path.size : Int)) <;> cases d2 : decide ((200 : Int) < (l[q].data.size : Int))
  all_goals rw [d1, d2] at hx
  ·simp only [go_sem, hA, zAc, zh, k1, Int.toNat_natCast, zam l q hlt, d1, d2]
   exact ⟨⟨by omega, by omega⟩, ⟨by omega, by omega⟩, by unfold zf; omega, l.length - (q + 1), by omega, q + 1, by omega, rfl, zbq hlt hf hx, rfl⟩
  all_goals
   rw [zgV hlt hx] at he
   simp only [go_sem, hA, zAc, zh, k1, Int.toNat_natCast, zam l q hlt, d1, d2, undef, he, Tryz.results24]
  ·exact ⟨⟨by omega, by omega⟩, by omega, by omega⟩
  ·exact ⟨by omega, by omega⟩
  ·exact ⟨by omega, by omega⟩
 ·have k1 : decide ((q : Int) < (l.length : Int)) = false := decide_eq_false (by omega)
  obtain rfl : q = l.length := by omega
  rw [List.take_length] at hf
  rw [hf] at he
  simp only [go_sem, hA, zAc, zh, k1, he, Tryz.results24]
theorem zus (x : Mo) (hb : ∀ d ∈ x.decls, zb d.body ≤ 1048576) : Con Tryz.prog 25 [avM x] (.d (.raw (.bool (zfF x)))) := by
 refine zj Tryz.func25 rfl (by decide +kernel) rfl rfl (by simp [Tryz.ntmps25]) fun A hA => ?_
 rw [Tryz.ntmps25] at hA
 refine goC 400 ?_
 have hr : zfF x = (decide ((120 : Int) < (x.label.size : Int)) || (zgk x.uses || zdG x.decls)) := rfl
 cases d1 : decide ((120 : Int) < (x.label.size : Int)) with
 | true =>
  rw [d1] at hr
  simp only [go_sem, hA, avM, d1, undef, hr, Bool.true_or, Tryz.results25]
 | false =>
  rw [d1, Bool.false_or] at hr
  simp only [go_sem, hA, avM, d1]
  refine zc 300 (zpW x.uses) rfl (by simp only [go_sem]) (by simp only [go_sem, hA]) ?_
  cases d2 : zgk x.uses with
  | true =>
   rw [d2] at hr
   simp only [go_sem, hA, undef, hr, Bool.true_or, Tryz.results25]
  | false =>
   rw [d2, Bool.false_or] at hr
   simp only [go_sem, hA]
   refine zc 300 (znS x.decls hb) rfl (by simp only [go_sem]) (by simp only [go_sem, hA]) ?_
   simp only [go_sem, hA, hr, Tryz.results25]
abbrev zww (m : Mg) (q : Nat) : St := ⟨[(1, .box 0 0), (3, .d (.raw (.int .i64 q)))], [(0, some (.cell 26 [.d (.sl (zbd m.ms)), .d (.sl (zW m.fs)), .d (.sl (zaI m.ts))]))], []⟩
abbrev zsF (m : Mg) (q : Nat) : St := ⟨[(1, .box 0 0), (4, .d (.raw (.int .i64 q)))], [(0, some (.cell 26 [.d (.sl (zbd m.ms)), .d (.sl (zW m.fs)), .d (.sl (zaI m.ts))]))], []⟩
theorem zxx (m : Mg) (hb : ∀ x ∈ m.ms, ∀ d ∈ x.decls, zb d.body ≤ 1048576) : Con Tryz.prog 7 [avG m] (.d (.raw (.bool (zfG m)))) := by
 refine zj Tryz.func7 rfl (by decide +kernel) rfl rfl (by simp [Tryz.ntmps7]) fun A hA => ?_
 rw [Tryz.ntmps7] at hA
 refine goC 400 ?_
 have hr : zfG m = (decide ((4 : Int) < (m.ms.length : Int)) || (zeF m.fs || (decide ((6 : Int) < (m.ts.length : Int)) || (m.ms.any zfF || m.ts.any zgO)))) := rfl
 cases d1 : decide ((4 : Int) < (m.ms.length : Int)) with
 | true =>
  rw [d1] at hr
  simp only [go_sem, hA, avG, zv, d1, undef, hr, Bool.true_or, Tryz.results7]
 | false =>
 rw [d1, Bool.false_or] at hr
 have hml : ¬ 4 < m.ms.length := fun h => by have := of_decide_eq_false d1; omega
 simp only [go_sem, hA, avG, zv, d1]
 refine zc 300 (zxy m.fs) rfl (by simp only [go_sem]) (by simp only [go_sem, hA]) ?_
 cases d2 : zeF m.fs with
 | true =>
  rw [d2] at hr
  simp only [go_sem, hA, undef, hr, Bool.true_or, Tryz.results7]
 | false =>
 rw [d2, Bool.false_or] at hr
 cases d3 : decide ((6 : Int) < (m.ts.length : Int)) with
 | true =>
  rw [d3] at hr
  simp only [go_sem, hA, zq, d3, hr, Bool.true_or, Tryz.results7]
 | false =>
 rw [d3, Bool.false_or] at hr
 have htl : ¬ 6 < m.ts.length := fun h => by have := of_decide_eq_false d3; omega
 simp only [go_sem, hA, zq, d3]
 refine ze [1, 3] [0] [] (fun y σ => ∃ q : Nat, q ≤ m.ms.length ∧ y = m.ms.length - q ∧ ((m.ms.take q).any zfF) = false ∧ σ = zww m q) m.ms.length ⟨0, by omega, by omega, rfl, by simp only [go_sem, zww]⟩ ?_
 rintro y σ ⟨q, hq, rfl, hf, rfl⟩
 refine goC 400 ?_
 by_cases hlt : q < m.ms.length
 ·have k1 : decide ((q : Int) < (m.ms.length : Int)) = true := decide_eq_true (by omega)
  simp only [go_sem, hA, zww, zv, k1, Int.toNat_natCast, zbm m.ms q hlt, zfh]
  refine ⟨⟨by omega, by omega⟩, ?_⟩
  refine zc 300 (zus m.ms[q] (hb _ (List.getElem_mem hlt))) rfl (by simp only [go_sem, avM]) (by simp only [go_sem, hA]) ?_
  cases hx : zfF m.ms[q] with
  | true =>
   rw [zgV hlt hx, Bool.true_or] at hr
   simp only [go_sem, hA, hr, Tryz.results7]
  | false =>
   simp only [go_sem, hA]
   exact ⟨by unfold zf; omega, m.ms.length - (q + 1), by omega, q + 1, by omega, rfl, zbq hlt hf hx, rfl⟩
 have k1 : decide ((q : Int) < (m.ms.length : Int)) = false := decide_eq_false (by omega)
 obtain rfl : q = m.ms.length := by omega
 rw [List.take_length] at hf
 rw [hf, Bool.false_or] at hr
 simp only [go_sem, hA, zww, zv, k1]
 refine ze [1, 4] [0] [] (fun y σ => ∃ q : Nat, q ≤ m.ts.length ∧ y = m.ts.length - q ∧ ((m.ts.take q).any zgO) = false ∧ σ = zsF m q) m.ts.length ⟨0, by omega, by omega, rfl, by simp only [go_sem, zsF]⟩ ?_
 clear hf hlt k1 hq
 rintro y σ ⟨q, hq, rfl, hf, rfl⟩
 refine goC 400 ?_
 by_cases hlt : q < m.ts.length
 ·have k1 : decide ((q : Int) < (m.ts.length : Int)) = true := decide_eq_true (by omega)
  have hx : zgO m.ts[q] = (decide ((120 : Int) < (m.ts[q].path.size : Int)) || (decide ((300 : Int) < (m.ts[q].base.size : Int)) || (decide ((300 : Int) < (m.ts[q].left.size : Int)) || decide ((300 : Int) < (m.ts[q].right.size : Int))))) := rfl
  cases e1 : decide ((120 : Int) < (m.ts[q].path.size : Int)) <;> cases e2 : decide ((300 : Int) < (m.ts[q].base.size : Int)) <;> cases e3 : decide ((300 : Int) < (m.ts[q].left.size : Int)) <;> cases e4 : decide ((300 : Int) < (m.ts[q].right.size : Int))
  all_goals rw [e1, e2, e3, e4] at hx
  ·simp only [go_sem, hA, zsF, zq, k1, Int.toNat_natCast, zbP m.ts q hlt, zgs, e1, e2, e3, e4]
   exact ⟨⟨by omega, by omega⟩, by unfold zf; omega, m.ts.length - (q + 1), by omega, q + 1, by omega, rfl, zbq hlt hf hx, rfl⟩
  all_goals
   rw [zgV hlt hx] at hr
   simp only [go_sem, hA, zsF, zq, k1, Int.toNat_natCast, zbP m.ts q hlt, zgs, e1, e2, e3, e4, undef, hr, Tryz.results7]
   exact ⟨by omega, by omega⟩
 ·have k1 : decide ((q : Int) < (m.ts.length : Int)) = false := decide_eq_false (by omega)
  obtain rfl : q = m.ts.length := by omega
  rw [List.take_length] at hf
  rw [hf] at hr
  simp only [go_sem, hA, zsF, zq, k1, hr, Tryz.results7]
end
section
open Go Go.RowKit
end
section
open Go Go.RowKit
theorem zdR {α : Type} {p : α → Bool} {l : List α} (h : l.any p = false) {x : α} (hx : x ∈ l) : p x = false := by
 cases hp : p x with
 | false => rfl
 | true => rw [List.any_eq_true.2 ⟨x, hx, hp⟩] at h; cases h
theorem zna {m : Mg} (h : zfG m = false) : m.Good := by
 simp only [zfG, Bool.or_eq_false_iff, decide_eq_false_iff_not] at h
 obtain ⟨h1, h2, h3, h4, h5⟩ := h
 simp only [zeF, Bool.or_eq_false_iff, decide_eq_false_iff_not] at h2
 have hm : ∀ x ∈ m.ms, x.decls.length ≤ 8 ∧ ∀ d ∈ x.decls, zb d.body ≤ 40 := fun x hx => by
  have := zdR h4 hx
  simp only [zfF, zdG, Bool.or_eq_false_iff, decide_eq_false_iff_not] at this
  refine ⟨by omega, fun d hd => ?_⟩
  have h6 := zdR this.2.2.2 hd
  simp only [zdH, Bool.or_eq_false_iff] at h6
  have h7 := h6.1.2
  simp only [zgl, Bool.or_eq_false_iff, decide_eq_false_iff_not] at h7
  omega
 refine ⟨⟨by omega, by omega, fun x hx d hd => ?_, fun x hx => ?_, fun x hx => ?_⟩, by omega, fun x hx => ?_⟩
 ·have := (hm x hx).2 d hd; omega
 ·have := zdR h2.2 hx
  simp only [zgP, Bool.or_eq_false_iff, decide_eq_false_iff_not] at this
  omega
 ·have := zdR h5 hx
  simp only [zgO, Bool.or_eq_false_iff, decide_eq_false_iff_not] at this
  omega
 ·have := (hm x hx).1; omega
def zmQ (m : Mg) : List Sq := if zG m = 0 then zaG m else []
theorem zoT (m : Mg) : zkr m = zaq (zmQ m) := by
 unfold zkr zmQ
 split
 ·exact zoU m
 ·rfl
theorem zCh (m : Mg) (hg : m.Good) : Con Tryz.prog 12 [avG m] (.d (.sl (zaq (zmQ m)))) := by
 rw [← zoT]
 exact zBL m hg.fine hg.tl hg.dl (fun x _ => zjM x) (zju m hg.fine.ml)
end
section
open Go Go.RowKit
variable {P : Program} {A : Base P} {σ : St}
def zvj (n : Int) : Bool := decide (-9223372036854775808 ≤ n) && decide (n ≤ 9223372036854775807)
theorem zqB {n : Int} (h : zvj n = true) : zf n := by
 unfold zvj at h
 simp only [Bool.and_eq_true, decide_eq_true_eq] at h
 exact h
def zdf (σ : St) : AV → Bool
 | .box _ _ => true
 | .at_ _ => true
 | .elem r _ i _ => match σ.blk r with
  | some (.row _ _ rows) => decide (i < rows.length)
  | _ => false
 | .selem r _ ver i _ => match σ.tok r with
  | some k => match k.ex with
   | some rows => decide (k.len = ver) && decide (i < rows.length)
   | none => false
  | none => false
 | _ => false
theorem zsk {t : TypeId} {p x : AV} {e : Eff} {n : Prop} (h : zbg P σ t p = some (x, e, n)) (hb : zdf σ p = true) : n := by
 cases p with
 | box r j =>
  simp only [zbg] at h
  split at h
  ·cases hl : zav P t _ with
   | none => rw [hl] at h; cases h
   | some y => rw [hl] at h; cases h; trivial
  ·cases h
 | at_ cs =>
  simp only [zbg] at h
  cases hl : zav P t (cs.map .d) with
  | none => rw [hl] at h; cases h
  | some y => rw [hl] at h; cases h; trivial
 | elem r st i j =>
  simp only [zbg] at h
  simp only [zdf] at hb
  split at h
  ·rename_i st' ty rows hr
   rw [hr] at hb
   split at h
   ·cases hl : zav P t (((rows.getD i []).drop j).map .d) with
    | none => rw [hl] at h; cases h
    | some y => rw [hl] at h; cases h; simpa using hb
   ·cases h
  ·cases h
 | selem r st ver i j =>
  simp only [zbg] at h
  simp only [zdf] at hb
  split at h
  ·rename_i k hr
   rw [hr] at hb
   simp only at hb
   split at h
   ·rename_i rows hx
    rw [hx] at hb
    split at h
    ·cases hl : zav P t (((rows.getD i []).drop j).map .d) with
     | none => rw [hl] at h; cases h
     | some y => rw [hl] at h; cases h; simpa using hb
    ·cases h
   ·cases h
  ·cases h
 | _ => cases hb
theorem zqq {t : TypeId} {p x y : AV} {e : Eff} {n : Prop} (h : zaF P σ t y p = some (x, e, n)) (hb : zdf σ p = true) : n := by
 cases p with
 | box r j =>
  simp only [zaF] at h
  split at h
  ·split at h
   ·cases h; trivial
   ·cases h
  ·cases h
 | at_ cs => simp only [zaF] at h; cases h
 | elem r st i j =>
  simp only [zaF] at h
  simp only [zdf] at hb
  split at h
  ·rename_i st' ty rows hr
   rw [hr] at hb
   split at h
   ·split at h
    ·cases h; simpa using hb
    ·cases h
   ·cases h
  ·cases h
 | selem r st ver i j =>
  simp only [zaF] at h
  simp only [zdf] at hb
  split at h
  ·rename_i k hr
   rw [hr] at hb
   simp only at hb
   split at h
   ·rename_i rows ds hx hd
    rw [hx] at hb
    split at h
    ·cases h; simpa using hb
    ·cases h
   ·cases h
  ·cases h
 | _ => cases hb
def zeW (P : Program) (t : TypeId) : AV → AV → Bool
 | .own _ len, .d (.raw (.int _ i)) => decide (0 ≤ i) && decide (i < (len : Nat))
 | .stk _ _ _ _ len, .d (.raw (.int _ i)) => decide (0 ≤ i) && decide (i < (len : Nat))
 | x, .d (.raw (.int _ i)) => match P.underlying t, x.rows with
  | some (.slice e), some rows => decide (0 ≤ i) && (decide (i < (rows.length : Nat)) && decide ((rows.getD i.toNat []).length = P.cellsOf e))
  | _, _ => false
 | _, _ => false
theorem zqs {t : TypeId} {p q x : AV} {e : Eff} {n : Prop} (h : zeT P t p q = some (x, e, n)) (hb : zeW P t p q = true) : n := by
 unfold zeT at h
 split at h
 ·rename_i k i
  split at h
  ·rename_i el ht
   split at h
   ·simp only [zeW] at hb
    split at h
    ·cases h
    ·cases h; simpa using hb
   ·simp only [zeW] at hb
    split at h
    ·cases h
    ·split at h
     ·cases h; simpa using hb
     ·cases h
   ·rename_i x' hn1 hn2
    split at h
    ·rename_i rows hr
     have hb' : (decide (0 ≤ i) && (decide (i < (rows.length : Nat)) && decide ((rows.getD i.toNat []).length = P.cellsOf el))) = true := by
      unfold zeW at hb
      split at hb
      ·rename_i r len _ _ heq; exact absurd rfl (hn1 _ _)
      ·rename_i heq; exact absurd rfl (hn2 _ _ _ _ _)
      ·rename_i heq
       cases heq
       rw [ht, hr] at hb
       exact hb
      ·cases hb
     split at h
     ·cases h
     ·cases h; simpa using hb'
    ·cases h
  ·cases h
 ·cases h
def zsw : IntKind → Bool
 | .i64 => true
 | _ => false
def zoO (op : BinOp) (x y : Value) : Bool :=
 match x, y with
 | .int k a, .int _ b =>
  match op with
  | .add => !zsw k || zvj (a + b)
  | .sub => !zsw k || zvj (a - b)
  | .mul => !zsw k || zvj (a * b)
  | .quo => decide (b ≠ 0) && (!zsw k || zvj (a.tdiv b))
  | .rem => decide (b ≠ 0)
  | _ => true
 | .string a, .string b => decide (((a.size + b.size : Nat) : Int) ≤ 9223372036854775807)
 | _, _ => true
theorem zzD {op : BinOp} {x y : Value} {r : Value × Prop} (h : zny op x y = some r) (hb : zoO op x y = true) : r.2 := by
 unfold zny at h
 split at h
 ·simp only [zoO, zsw, Bool.not_true, Bool.false_or] at hb
  split at h <;> (first | (cases h; first | trivial | exact zqB hb | (simp only [Bool.and_eq_true, decide_eq_true_eq] at hb; exact ⟨hb.1, zqB hb.2⟩) | simpa using hb) | cases h)
 ·simp only [zoO] at hb
  split at h
  ·split at h <;> (first | (cases h; first | trivial | (simp only [Bool.and_eq_true, decide_eq_true_eq] at hb; exact hb.1) | simpa using hb) | cases h)
  ·cases h
 ·simp only [zoO] at hb
  split at h <;> (first | (cases h; first | trivial | simpa using hb) | cases h)
 ·cases h
def zmJ (P : Program) (t : TypeId) (x y : AV) : Bool :=
 match P.underlying t with
 | some (.int _) => match x, y with
  | .d (.raw (.int k _)), .d (.raw (.int yk b)) => decide (0 ≤ b) && decide (k = yk)
  | _, _ => false
 | some (.pointer _) => true
 | some (.struct _) => !P.stoodInHeld t && !P.eqGuardType P.depth t
 | some (.array 2 e) => decide (P.cellsOf e = 1) && (decide (zaX P e = some false) && !P.eqGuardType P.depth t)
 | _ => false
theorem zfg {op : BinOp} {b : Bool} {need : Prop} {x : AV} {e : Eff} {n : Prop} (h : znh op b need = some (x, e, n)) : n = need := by
 unfold znh at h
 split at h
 ·cases h; rfl
 ·cases h; rfl
 ·cases h
theorem zoP {op : BinOp} {t : TypeId} {x y z : AV} {e : Eff} {n : Prop} (h : zmr P op t x y = some (z, e, n)) (hb : zmJ P t x y = true) : n := by
 unfold zmr at h
 unfold zmJ at hb
 split at h
 ·rename_i ht
  rw [ht] at hb
  split at h
  ·simp only [Bool.and_eq_true, decide_eq_true_eq] at hb
   unfold ziu at h
   split at h <;> (first | (cases h; first | exact hb.1 | exact hb.2) | cases h)
  ·cases h
 ·split at h
  ·rw [zfg h]; trivial
  ·split at h
   ·rw [zfg h]; trivial
   ·split at h
    ·split at h
     ·rw [zfg h]; trivial
     ·cases h
    ·cases h
 ·rename_i ht
  rw [ht] at hb
  simp only [Bool.and_eq_true, Bool.not_eq_true'] at hb
  split at h
  ·split at h
   ·split at h
    ·rw [zfg h]; exact hb
    ·cases h
   ·cases h
  ·cases h
 ·rename_i ht
  rw [ht] at hb
  simp only [Bool.and_eq_true, Bool.not_eq_true', decide_eq_true_eq] at hb
  split at h
  ·split at h
   ·rw [zfg h]; exact hb
   ·cases h
  ·cases h
 ·cases h
def zlj (P : Program) (op : BinOp) (t : TypeId) : AV → AV → Bool
 | .d (.raw (.bool _)), .d (.raw (.bool _)) => true
 | .d (.raw x), .d (.raw y) => match zny op x y with
  | some _ => zoO op x y
  | none => zmJ P t (.d (.raw x)) (.d (.raw y))
 | x, y => zmJ P t x y
theorem zuT {op : BinOp} {t : TypeId} {p q x : AV} {e : Eff} {n : Prop} (h : zjo P op t p q = some (x, e, n)) (hb : zlj P op t p q = true) : n := by
 unfold zjo at h
 split at h
 ·split at h
  ·rename_i a b _ _
   cases hq : znx op a b with
   | none => rw [hq] at h; cases h
   | some r => rw [hq] at h; cases h; trivial
  ·cases h
 ·rename_i x' y' hnb
  have hb' : (match zny op x' y' with | some _ => zoO op x' y' | none => zmJ P t (.d (.raw x')) (.d (.raw y'))) = true := by
   unfold zlj at hb
   split at hb
   ·rename_i e1 e2
    cases e1; cases e2
    exact absurd rfl (hnb _ _ rfl)
   ·rename_i e1 e2
    cases e1; cases e2
    exact hb
   ·rename_i hn
    exact absurd rfl (hn _ _ rfl)
  split at h
  ·rename_i r hr
   rw [hr] at hb'
   cases h
   exact zzD hr hb'
  ·rename_i hr
   rw [hr] at hb'
   exact zoP h hb'
 ·rename_i hn1 hn2
  refine zoP h ?_
  unfold zlj at hb
  split at hb
  ·exact absurd rfl (hn1 _ _ rfl)
  ·exact absurd rfl (hn2 _ _ rfl)
  ·exact hb
end
section
open Go Go.RowKit
variable {P : Program} {A : Base P} {σ : St}
def znE (st : Nat) (rows : List (List D)) : Bool := rows.all fun r => decide (r.length = st)
theorem zjR {st : Nat} {rows : List (List D)} (h : znE st rows = true) : ∀ r ∈ rows, r.length = st := fun r hr => by
 have := List.all_eq_true.1 h r hr
 simpa using this
def zBn (st : Nat) (rows : List (List D)) : Bool := rows.all fun r => decide (r.length = st) && r.all D.one
theorem zyD {st : Nat} {rows : List (List D)} (h : zBn st rows = true) : zK st rows := fun r hr => by
 have := List.all_eq_true.1 h r hr
 simp only [Bool.and_eq_true, decide_eq_true_eq, List.all_eq_true] at this
 exact this
def zhM (P : Program) (kk : Option Tok) (t : TypeId) (x y : AV) : Bool :=
 match P.underlying t, y.rows with
 | some (.slice e), some rows2 => zBn (P.cellsOf e) rows2 && (match x with
  | .grow _ rows => match kk with
   | some k => decide (rows.length = k.len) && (znE (P.cellsOf e) rows && decide (rows.length + rows2.length ≤ 1099511627776))
   | none => false
  | .stk _ _ ver _ len => match kk with
   | some k => match k.ex with
    | some rows => decide (k.len = ver) && (decide (len ≤ rows.length) && decide (len + rows2.length ≤ 1099511627776))
    | none => false
   | none => false
  | _ => decide (rows2.length ≤ 1099511627776))
 | _, _ => false
theorem zof {kk : Option Tok} {me : Nat} {t : TypeId} {p q x : AV} {e : Eff} {n : Prop} (h : zdQ P kk me t p q = some (x, e, n)) (hb : zhM P kk t p q = true) : n := by
 unfold zdQ at h
 unfold zhM at hb
 split at h
 ·rename_i el rows2 ht hq
  rw [ht, hq] at hb
  simp only [Bool.and_eq_true] at hb
  obtain ⟨hb1, hb2⟩ := hb
  have hf := zyD hb1
  split at h
  ·split at h
   ·split at h
    ·simp only at hb2
     split at h
     ·simp only [Bool.and_eq_true, decide_eq_true_eq] at hb2
      split at h
      ·cases h; exact ⟨hb2.1, hf, zjR hb2.2.1, hb2.2.2⟩
      ·cases h
     ·cases h
    ·simp only at hb2
     split at h
     ·split at h
      ·rename_i hx
       simp only [hx, Bool.and_eq_true, decide_eq_true_eq] at hb2
       split at h
       ·cases h; exact ⟨hb2.1, hf, hb2.2.1, hb2.2.2⟩
       ·cases h
      ·cases h
     ·cases h
    ·simp only [decide_eq_true_eq] at hb2
     cases h; exact ⟨hf, hb2⟩
    ·cases h
   ·cases h
  ·cases h
 ·cases h
def zeq (kk : Option Tok) (x y : AV) : Bool :=
 match y with
 | .d (.raw (.string s)) => match x with
  | .grow _ rows => match kk with
   | some k => decide (rows.length = k.len) && (znE 1 rows && decide (k.len + s.size ≤ 1099511627776))
   | none => false
  | _ => decide (s.size ≤ 1099511627776)
 | _ => false
theorem zmL {kk : Option Tok} {me : Nat} {t u : TypeId} {p q x : AV} {e : Eff} {n : Prop} (h : zcN P kk me t u p q = some (x, e, n)) (hb : zeq kk p q = true) : n := by
 unfold zcN at h
 split at h
 ·split at h
  ·split at h
   ·split at h
    ·unfold zeq at hb
     simp only at hb
     split at h
     ·simp only [Bool.and_eq_true, decide_eq_true_eq] at hb
      split at h
      ·cases h; exact ⟨hb.1, zjR hb.2.1, hb.2.2⟩
      ·cases h
     ·cases h
    ·unfold zeq at hb
     simp only [decide_eq_true_eq] at hb
     cases h; exact hb
    ·cases h
   ·cases h
  ·cases h
 ·cases h
def zjs (P : Program) (t : TypeId) (x : AV) (lo hi : Option AV) : Bool :=
 match P.underlying t with
 | some .string => match x with
  | .d (.raw (.string s)) => match zbu lo 0, zbu hi s.size with
   | some l, some h => decide (0 ≤ l) && (decide (l ≤ h) && decide (h ≤ (s.size : Nat)))
   | _, _ => false
  | _ => false
 | some (.slice e) => match x with
  | .stk _ _ _ _ len => match zbu lo 0, zbu hi len with
   | some l, some h => decide (0 ≤ l) && (decide (l ≤ h) && decide (h ≤ (len : Nat)))
   | _, _ => false
  | x => match x.rows with
   | some rows => match zbu lo 0, zbu hi rows.length with
    | some l, some h => znE (P.cellsOf e) rows && (decide (0 ≤ l) && (decide (l ≤ h) && decide (h ≤ (rows.length : Nat))))
    | _, _ => false
   | none => false
 | _ => false
def zmK (P : Program) (σ : St) (c : Call) : Bool :=
 match c.callee, c.args.toList, c.argTypes.toList with
 | .builtin .len, [_], [_] => true
 | .builtin .append, [p, q], [t, t'] => if t = t' then zhM P (zhW σ (σ.eval p)) t (σ.eval p) (σ.eval q) else zeq (zhW σ (σ.eval p)) (σ.eval p) (σ.eval q)
 | _, _, _ => false
theorem zsl {me : Nat} {c : Call} {x : AV} {e : Eff} {n : Prop} (h : zfy P σ me c = some (x, e, n)) (hb : zmK P σ c = true) : n := by
 unfold zfy at h
 unfold zmK at hb
 split at h
 ·unfold zqf at h
  split at h
  ·cases h; trivial
  ·cases h; trivial
  ·cases h; trivial
  ·rename_i q _ _
   cases hr : AV.rows _ with
   | none => rw [hr] at h; cases h
   | some rows => rw [hr] at h; cases h; trivial
  ·cases h
 ·rename_i h1 h2 h3
  rw [h1, h2, h3] at hb
  simp only at hb
  split at h
  ·rename_i ht
   rw [if_pos ht] at hb
   exact zof h hb
  ·rename_i ht
   rw [if_neg ht] at hb
   exact zmL h hb
 ·rename_i h1 h2 h3
  rw [h1, h2, h3] at hb
  cases hb
 ·cases h
def zsn (P : Program) (σ : St) : Op → Bool
 | .load _ p => zdf σ (σ.eval p)
 | .store _ p _ => zdf σ (σ.eval p)
 | .binOp op t p q _ => zlj P op t (σ.eval p) (σ.eval q)
 | .unOp .not _ _ => true
 | .unOp .neg _ p => match σ.eval p with
  | .d (.raw (.int .i64 n)) => zvj (-n)
  | _ => false
 | .indexAddr t p q => zeW P t (σ.eval p) (σ.eval q)
 | .index _ p q => match σ.eval p, σ.eval q with
  | .d (.raw (.string s)), .d (.raw (.int _ i)) => decide (0 ≤ i) && decide (i < (s.size : Nat))
  | _, _ => false
 | .slice t p lo hi none => zjs P t (σ.eval p) (lo.map σ.eval) (hi.map σ.eval)
 | .call c => zmK P σ c
 | .move _ | .assign _ | .pick _ _ _ | .alloc _ | .box _ _ | .convert _ _ _ | .extract _ _ | .field _ _ _ | .fieldAddr _ _ _ | .buildSlice _ _ _ | .build _ _ | .makeFunc _ _ _ | .nilCheck _ | .makeInterface _ _ => true
 | _ => false
end
section
open Go Go.RowKit
variable {P : Program} {A : Base P} {σ : St}
theorem zqr {me : Nat} {t : TypeId} {p : Operand} {lo hi : Option Operand} {x : AV} {e : Eff} {n : Prop} (h : zL P σ me (.slice t p lo hi none) = some (x, e, n)) (hb : zjs P t (σ.eval p) (lo.map σ.eval) (hi.map σ.eval) = true) : n := by
 simp only [zL] at h
 unfold zjs at hb
 split at h
 ·rename_i ht
  rw [ht] at hb
  simp only at hb
  split at h
  ·rename_i s hs
   rw [hs] at hb
   simp only at hb
   split at h
   ·rename_i l hh hl hhh
    simp only [hl, hhh, Bool.and_eq_true, decide_eq_true_eq] at hb
    cases h; exact hb
   ·cases h
  ·cases h
 ·rename_i el ht
  rw [ht] at hb
  simp only at hb
  split at h
  ·rename_i r st ver off len hs
   rw [hs] at hb
   simp only at hb
   split at h
   ·rename_i l hh hl hhh
    simp only [hl, hhh, Bool.and_eq_true, decide_eq_true_eq] at hb
    split at h
    ·cases h
    ·split at h
     ·cases h; exact hb
     ·cases h
   ·cases h
  ·rename_i hns
   split at h
   ·rename_i rows hr
    have hb2 : (match zbu (lo.map σ.eval) 0, zbu (hi.map σ.eval) rows.length with
     | some l, some h => znE (P.cellsOf el) rows && (decide (0 ≤ l) && (decide (l ≤ h) && decide (h ≤ (rows.length : Nat))))
     | _, _ => false) = true := by
     split at hb
     ·rename_i hs; exact absurd hs (hns _ _ _ _ _)
     ·rw [hr] at hb; exact hb
    split at h
    ·rename_i l hh hl hhh
     simp only [hl, hhh, Bool.and_eq_true, decide_eq_true_eq] at hb2
     split at h
     ·cases h
     ·cases h; exact ⟨zjR hb2.1, hb2.2⟩
    ·cases h
   ·cases h
 ·cases h
theorem zeY {α : Type} {o : Option α} {f : α → AV} {x : AV} {e : Eff} {n : Prop} (h : (o.map fun y => (f y, Eff.none, True)) = some (x, e, n)) : n := by
 cases o with
 | none => cases h
 | some y => cases h; trivial
theorem zsm {me : Nat} {op : Op} {x : AV} {e : Eff} {n : Prop} (h : zL P σ me op = some (x, e, n)) (hb : zsn P σ op = true) : n := by
 cases op with
 | move p => cases h; trivial
 | assign p => cases h; trivial
 | pick c p q =>
  simp only [zL] at h
  split at h
  ·cases h; trivial
  ·cases h
 | alloc ty =>
  simp only [zL] at h
  split at h
  ·cases h; trivial
  ·cases h
 | box ty p =>
  simp only [zL] at h
  split at h
  ·cases h; trivial
  ·cases h
 | load t p => exact zsk h hb
 | store t p q => exact zqq h hb
 | binOp op t p q u => exact zuT h hb
 | unOp u t p =>
  cases u with
  | not =>
   simp only [zL] at h
   split at h
   ·cases h; trivial
   ·cases h
  | neg =>
   simp only [zL] at h
   simp only [zsn] at hb
   split at h
   ·rename_i m hm
    rw [hm] at hb
    cases h; exact zqB hb
   ·cases h
  | _ => cases hb
 | convert s t p =>
  simp only [zL] at h
  split at h
  ·split at h
   ·cases h; trivial
   ·cases h
  ·unfold zit at h
   split at h
   ·split at h
    ·exact zeY (f := fun (l : List UInt8) => AV.d (.raw (.string ⟨l.toArray⟩))) h
    ·cases h
   ·cases h
 | extract p k =>
  simp only [zL] at h
  split at h
  ·exact zeY (f := fun y => y) h
  ·cases h
 | field s p k =>
  simp only [zL] at h
  split at h
  ·split at h
   ·exact zeY (f := fun y => y) h
   ·cases h
  ·cases h
 | fieldAddr s p k =>
  simp only [zL] at h
  split at h
  ·split at h
   ·split at h
    ·cases h
    ·exact zeY (f := fun y => y) h
   ·cases h
  ·cases h
 | indexAddr t p q => exact zqs h hb
 | index t p q =>
  simp only [zL] at h
  simp only [zsn] at hb
  split at h
  ·rename_i h1 h2 h3
   rw [h2, h3] at hb
   simp only [Bool.and_eq_true, decide_eq_true_eq] at hb
   cases h; exact hb
  ·cases h
 | slice t p lo hi mx =>
  cases mx with
  | none => exact zqr h hb
  | some m => cases hb
 | call c => exact zsl h hb
 | buildSlice t k ps =>
  simp only [zL] at h
  split at h
  ·split at h
   ·split at h
    ·cases h; trivial
    ·cases h
   ·cases h
  ·cases h
 | build t ps =>
  simp only [zL] at h
  split at h
  ·split at h
   ·split at h
    ·exact zeY (f := fun y => AV.agg y) h
    ·cases h
   ·cases h
  ·split at h
   ·split at h
    ·cases h
    ·exact zeY (f := fun y => AV.agg y) h
   ·cases h
  ·cases h
 | makeFunc f fs cs =>
  cases f with
  | func f =>
   simp only [zL] at h
   split at h
   ·cases h; trivial
   ·split at h
    ·cases h; trivial
    ·cases h
   ·cases h
  | _ => simp only [zL] at h; cases h
 | nilCheck p =>
  simp only [zL] at h
  split at h
  ·cases h; trivial
  ·cases h
 | makeInterface t p =>
  simp only [zL] at h
  split at h
  ·cases h; trivial
  ·cases h
 | _ => cases hb
end
end Go.Proofs.YtpnjjmcimjlfkaaGreatDoor
