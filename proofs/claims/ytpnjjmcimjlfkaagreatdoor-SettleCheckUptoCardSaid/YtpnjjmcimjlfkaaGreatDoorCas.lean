/- Texts of this proof, part 19: what the proof uses of them. -/
import Derived.Test.YtpnjjmcimjlfkaaGreatDoorCar
import Derived.Test.YtpnjjmcimjlfkaaGreatDoorCal
import Derived.Test.YtpnjjmcimjlfkaaGreatDoorCam
import Derived.Test.YtpnjjmcimjlfkaaGreatDoorCaf
set_option maxRecDepth 100000
set_option maxHeartbeats 64000000
namespace Go.Proofs.YtpnjjmcimjlfkaaGreatDoor
section
open Go Go.RowKit
def spR (s : ByteArray) (k i j : Int) : List D := [.raw (.string s), .raw (.int .i64 k), .raw (.int .i64 i), .raw (.int .i64 j)]
def zkS (b : Bool) (s : ByteArray) (i : Int) (k : Int) (rows : List (List D)) : List (List D) := if b then rows ++ [spR s k i 0] else rows
def zkZ (s : ByteArray) (i : Int) (n : Nat) (rows : List (List D)) : List (List D) := rows ++ (List.range n).map fun (j : Nat) => spR s 2 i (j : Int)
def zhK (d : Dc) : ByteArray := d.names.getD 0 ⟨#[]⟩
def zlH (s : ByteArray) (a : List (List D) × List ByteArray) (d : Dc) : List (List D) × List ByteArray :=
 (zkS (decide (d.names.length = 1) && zbN a.2 (zhK d)) s d.id 4 (zkS d.doubt s d.id 3 (zkZ s d.id (confE d.body) (zkS (decide (d.names.length = 3)) s d.id 1 a.1))),
  if d.names.length = 1 then zeh a.2 (zhK d) else a.2)
def zez (x : Mo) (n : Nat) : List (List D) × List ByteArray := (x.decls.take n).foldl (zlH x.label) ([], [])
abbrev zwp (x : Mo) (rows : List (List D)) (fs : List ByteArray) (q : Nat) : St := ⟨[(1, .box 0 0), (3, .grow 99 rows), (4, .mp 2000), (10, .d (.sl (zaW x.decls))), (11, .d (.raw (.int .i64 x.decls.length))), (12, .d (.raw (.int .i64 q)))], [(0, some (.cell 56 [.d (.raw (.string x.label)), .d (.sl (zt x.uses)), .d (.sl (zaW x.decls))])), (2000, some (.map none (zaw fs) (zao fs)))], [(99, some ⟨4, 60, rows.length, none⟩)]⟩
abbrev zwo (x : Mo) (d : Dc) (rows : List (List D)) (fs : List ByteArray) (q j : Nat) : St := ⟨[(1, .box 0 0), (3, .grow 99 rows), (4, .mp 2000), (6, .box 5002 0), (10, .d (.sl (zaW x.decls))), (11, .d (.raw (.int .i64 x.decls.length))), (12, .d (.raw (.int .i64 q))), (30, .d (.raw (.int .i64 (confE d.body)))), (31, .d (.raw (.int .i64 j)))],
 [(0, some (.cell 56 [.d (.raw (.string x.label)), .d (.sl (zt x.uses)), .d (.sl (zaW x.decls))])), (2000, some (.map none (zaw fs) (zao fs))),
  (5002, some (.cell 107 [.d (.raw (.int .i64 d.id)), .d (.raw (.int .i64 d.kind)), .d (.raw (.bool d.pub)), .d (.sl (zt d.names)), .d (.raw (.bool d.doubt)), .d (.raw (.int .i64 d.body.kind)), .d (.raw (.string d.body.name)), .d (.raw (.string d.body.more)), .d (.raw (.int .i64 d.body.int)), .d (.raw (.int .i64 d.body.den)), .d (.sl (zaY d.body.sub))]))], [(99, some ⟨4, 60, rows.length, none⟩)]⟩
def Sp4 (rows : List (List D)) (n : Nat) : Prop := (∀ r ∈ rows, r.length = 4) ∧ rows.length ≤ n
theorem Sp4.le {rows : List (List D)} {n m : Nat} (h : Sp4 rows n) (hm : n ≤ m) : Sp4 rows m := ⟨h.1, Nat.le_trans h.2 hm⟩
theorem zwU (fs : List ByteArray) (j : Nat) : (zao fs).set j (.d (.raw (.bool true))) = zao fs := by simp [zao]
theorem zBF (n : Nat) : Sp4 [] n := ⟨fun _ h => (by cases h), by simp⟩
theorem zqc (s : ByteArray) (i k : Int) (rows : List (List D)) : zkS true s i k rows = rows ++ [[.raw (.string s), .raw (.int .i64 k), .raw (.int .i64 i), .raw (.int .i64 0)]] := rfl
theorem zmm (s : ByteArray) (i k : Int) (rows : List (List D)) : zkS false s i k rows = rows := rfl
theorem zxQ (s : ByteArray) (i : Int) (rows : List (List D)) : zkZ s i 0 rows = rows := by simp [zkZ]
theorem zcy (r : Nat) (fs : List ByteArray) : zca r (zao fs) = false := zH _ _
theorem zcC (s : ByteArray) (k i j : Int) : zK 4 [[D.raw (Value.string s), D.raw (Value.int IntKind.i64 k), D.raw (Value.int IntKind.i64 i), D.raw (Value.int IntKind.i64 j)]] := by
 intro r hr
 simp at hr
 subst hr
 exact ⟨rfl, fun x hx => by simp at hx; rcases hx with rfl | rfl | rfl | rfl <;> rfl⟩
theorem Sp4.pre {rows : List (List D)} {n : Nat} (h : Sp4 rows n) (b : Bool) (s : ByteArray) (i k : Int) : Sp4 (zkS b s i k rows) (n + 1) := by
 cases b
 ·exact ⟨h.1, Nat.le_succ_of_le h.2⟩
 ·refine ⟨fun r hr => ?_, by have := h.2; simp [zkS]; omega⟩
  rcases List.mem_append.1 (show r ∈ rows ++ [_] from hr) with h1 | h1
  ·exact h.1 r h1
  ·simp at h1; subst h1; rfl
theorem zoS (s : ByteArray) (i : Int) (n : Nat) (rows : List (List D)) : zkZ s i (n + 1) rows = zkZ s i n rows ++ [spR s 2 i n] := by simp [zkZ, List.range_succ]
theorem Sp4.mid {rows : List (List D)} {n : Nat} (h : Sp4 rows n) (s : ByteArray) (i : Int) : ∀ m, Sp4 (zkZ s i m rows) (n + m)
 | 0 => by simpa [zkZ] using h
 | m + 1 => by
  have ih := Sp4.mid h s i m
  rw [zoS]
  refine ⟨fun r hr => ?_, by have := ih.2; simp; omega⟩
  rcases List.mem_append.1 hr with h1 | h1
  ·exact ih.1 r h1
  ·simp at h1; subst h1; rfl
theorem zsq (x : Mo) (hl : x.decls.length ≤ 1048576) (hb : ∀ d ∈ x.decls, zb d.body ≤ 524288) : Con Tryz.prog 100 [avM x] (.d (.sl (zez x x.decls.length).1)) := by
 refine zj Tryz.func100 rfl (by decide +kernel) rfl rfl (by simp [Tryz.ntmps100]) fun A hA => ?_
 rw [Tryz.ntmps100] at hA
 refine goC 20 ?_
 simp only [go_sem, hA, avM]
 refine zig 99 3 4 60 (by simp only [go_sem]) rfl ?_
 refine goC 400 ?_
 simp only [go_sem, hA, zi]
 refine ze [1, 3, 4, 10, 11, 12] [0, 2000] [99] (fun y σ => ∃ (q : Nat) (rows : List (List D)) (fs : List ByteArray), q ≤ x.decls.length ∧ y = x.decls.length - q ∧ zez x q = (rows, fs) ∧ Sp4 rows (q * 524292) ∧ σ = zwp x rows fs q) x.decls.length ⟨0, [], [], by omega, by omega, rfl, zBF _, by simp only [go_sem, zwp]; rfl⟩ ?_
 rintro y σ ⟨q, rows, fs, hq, rfl, hf, hs, rfl⟩
 by_cases hlt : q < x.decls.length
 ·have k1 : decide ((q : Int) < (x.decls.length : Int)) = true := decide_eq_true (by omega)
  have hd := hb _ (List.getElem_mem hlt)
  refine goC 400 ?_
  simp only [go_sem, hA, zwp, k1, zi, Int.toNat_natCast, zai x.decls q hlt, zdm, zH, za]
  refine ⟨⟨by omega, by omega⟩, ?_⟩
  have hn := ziR x.decls[q].body
  have hs3 := hs.pre (decide (x.decls[q].names.length = 3)) x.label x.decls[q].id 1
  have kn : decide (x.decls[q].names.length = 3) = decide (((x.decls[q].names.length : Nat) : Int) = 3) := decide_eq_decide.2 (by omega)
  have hcf := zhl x.decls[q].body (by omega)
  rw [kn] at hs3
  cases k3 : decide (((x.decls[q].names.length : Nat) : Int) = 3)
  all_goals
   rw [k3] at kn hs3
   simp only [go_sem, hA, zcy]
  rotate_left
  refine ⟨⟨zcC _ _ _ _, hs.1, by have := hs.2; omega⟩, ?_⟩
  all_goals
   refine zc 400 hcf rfl (by simp only [go_sem, zw]) (by simp only [go_sem, hA]) ?_
   simp only [go_sem, hA]
   refine ze [1, 3, 4, 6, 10, 11, 12, 30, 31] [0, 2000, 5002] [99] (fun y σ => ∃ j : Nat, j ≤ confE x.decls[q].body ∧ y = confE x.decls[q].body - j ∧ σ = zwo x x.decls[q] (zkZ x.label x.decls[q].id j (zkS (decide (((x.decls[q].names.length : Nat) : Int) = 3)) x.label x.decls[q].id 1 rows)) fs q j) (confE x.decls[q].body) ⟨0, by omega, by omega, by (simp only [go_sem, zwo, zxQ, k3, zqc, zmm, List.length_append, List.length_cons, List.length_nil]) <;> rfl⟩ ?_
   rintro y σ ⟨j, hj, rfl, rfl⟩
   rw [k3]
   generalize hr3 : zkS _ x.label x.decls[q].id 1 rows = r3 at hs3 ⊢
   have hsm := hs3.mid x.label x.decls[q].id j
   refine goC 400 ?_
   by_cases hj1 : j < confE x.decls[q].body
   ·have k4 : decide ((j : Int) < (confE x.decls[q].body : Int)) = true := decide_eq_true (by omega)
    simp only [go_sem, hA, zwo, k4, zcy]
    exact ⟨⟨zcC _ _ _ _, hsm.1, by have := hsm.2; omega⟩, by unfold zf; omega, confE x.decls[q].body - (j + 1), by omega, j + 1, by omega, rfl, by rw [zoS]; simp only [List.length_append, List.length_cons, List.length_nil]; rfl⟩
   ·have k4 : decide ((j : Int) < (confE x.decls[q].body : Int)) = false := decide_eq_false (by omega)
    obtain rfl : j = confE x.decls[q].body := by omega
    have hsp : zez x (q + 1) = zlH x.label (rows, fs) x.decls[q] := by unfold zez at hf ⊢; rw [List.take_succ_eq_append_getElem hlt, List.foldl_append, hf]; rfl
    unfold zlH at hsp
    simp only at hsp
    rw [kn, hr3] at hsp
    generalize zkZ x.label x.decls[q].id (confE x.decls[q].body) r3 = r4 at hsm hsp ⊢
    have hs5 := hsm.pre x.decls[q].doubt x.label x.decls[q].id 3
    simp only [go_sem, hA, zwo, k4, zcy]
    cases k5 : x.decls[q].doubt
    all_goals
     rw [k5] at hs5 hsp
     simp only [go_sem, hA, za, zcy]
    rotate_left
    refine ⟨⟨zcC _ _ _ _, hsm.1, by have := hsm.2; omega⟩, ?_⟩
    all_goals
     cases k6 : decide (((x.decls[q].names.length : Nat) : Int) = 1)
     ·have k6' : ¬ x.decls[q].names.length = 1 := by have := of_decide_eq_false k6; omega
      rw [if_neg k6', decide_eq_false k6', Bool.false_and, zmm] at hsp
      simp only [go_sem, hA]
      exact ⟨by unfold zf; omega, x.decls.length - (q + 1), by omega, q + 1, _, _, by omega, rfl, hsp, hs5.le (by omega), by (simp only [zqc, zmm, List.length_append, List.length_cons, List.length_nil]) <;> rfl⟩
     ·have k6' : x.decls[q].names.length = 1 := by have := of_decide_eq_true k6; omega
      rw [if_pos k6', decide_eq_true k6', Bool.true_and] at hsp
      have h0 : 0 < x.decls[q].names.length := by omega
      have h1 : zhK x.decls[q] = x.decls[q].names[0] := by simp [zhK, List.getD_eq_getElem?_getD, h0]
      rw [h1] at hsp
      have hs6 := hs5.pre (zbN fs x.decls[q].names[0]) x.label x.decls[q].id 4
      cases k7 : zbN fs x.decls[q].names[0] with
      | true =>
       obtain ⟨j', hj1', hj2'⟩ := zjD k7
       rw [k7] at hsp hs6
       have ha : zeh fs x.decls[q].names[0] = fs := by simp [zeh, k7]
       rw [ha] at hsp
       simp only [go_sem, hA, za, zJ _ 0 h0, hj1', hj2', zbS, zcy, zwU]
       refine ⟨by omega, ?_, by omega, by unfold zf; omega, x.decls.length - (q + 1), by omega, q + 1, _, _, by omega, rfl, hsp, hs6.le (by omega), by (simp only [zqc, zmm, List.length_append, List.length_cons, List.length_nil]) <;> rfl⟩
       have hl5 := hs5.2
       first | exact ⟨zcC _ _ _ _, hs5.1, by have : r4.length = (zkS false x.label x.decls[q].id 3 r4).length := rfl; omega⟩ | exact ⟨by simp, zcC _ _ _ _, hs5.1, Nat.le_trans hl5 (by omega)⟩
      | false =>
       have hj' := zjE k7
       rw [k7] at hsp hs6
       have ha : zeh fs x.decls[q].names[0] = fs ++ [x.decls[q].names[0]] := by simp [zeh, k7]
       rw [ha] at hsp
       simp only [go_sem, hA, za, zJ _ 0 h0, hj', zbS, zcy, ← zoW]
       refine ⟨by omega, by omega, by unfold zf; omega, x.decls.length - (q + 1), by omega, q + 1, _, _, by omega, rfl, hsp, hs6.le (by omega), by (simp only [zqc, zmm, zls, List.length_append, List.length_cons, List.length_nil]) <;> rfl⟩
 ·have k1 : decide ((q : Int) < (x.decls.length : Int)) = false := decide_eq_false (by omega)
  obtain rfl : q = x.decls.length := by omega
  rw [hf]
  refine goC 400 ?_
  simp only [go_sem, hA, zwp, k1, Tryz.results100]
end
section
open Go Go.RowKit
def zdz (x : Mo) : List (List D) := if zae x = 0 then (zez x x.decls.length).1 else []
theorem zzJ (x : Mo) (hl : x.decls.length ≤ 1048576) (hb : ∀ d ∈ x.decls, zb d.body ≤ 524288) : Con Tryz.prog 91 [avM x] (.d (.sl (zdz x))) := by
 refine zj Tryz.func91 rfl (by decide +kernel) rfl rfl (by simp [Tryz.ntmps91]) fun A hA => ?_
 rw [Tryz.ntmps91] at hA
 refine goC 400 ?_
 simp only [go_sem, hA, avM]
 refine zc 400 (zvz x hb) rfl (by simp only [go_sem, avM]) (by simp only [go_sem, hA]) ?_
 by_cases hx : zae x = 0
 ·have g : (decide ¬ zae x = 0) = false := by simp [hx]
  have hr : zdz x = (zez x x.decls.length).1 := if_pos hx
  simp only [go_sem, hA, g, hr]
  refine zc 400 (zsq x hl hb) rfl (by simp only [go_sem, avM]) (by simp only [go_sem, hA]) ?_
  simp only [go_sem, hA, Tryz.results91]
 ·have g : (decide ¬ zae x = 0) = true := by simp [hx]
  have hr : zdz x = [] := if_neg hx
  simp only [go_sem, hA, g, hr, Tryz.results91]
end
section
open Go Go.RowKit
def zdw (m : Mg) (q : Nat) : List (List D) := (m.ms.take q).flatMap zdz
def zcB (m : Mg) (q : Nat) : List (List D) := zdw m m.ms.length ++ (m.ts.take q).map fun x => spR x.path 5 0 0
def zks (m : Mg) : List (List D) := zcB m m.ts.length
abbrev zwt (m : Mg) (q : Nat) : St := ⟨[(1, .box 0 0), (3, .grow 99 (zdw m q)), (9, .d (.sl (zbd m.ms))), (10, .d (.raw (.int .i64 m.ms.length))), (11, .d (.raw (.int .i64 q)))], [(0, some (.cell 26 [.d (.sl (zbd m.ms)), .d (.sl (zW m.fs)), .d (.sl (zaI m.ts))]))], [(99, some ⟨4, 60, (zdw m q).length, none⟩)]⟩
abbrev zws (m : Mg) (q : Nat) : St := ⟨[(1, .box 0 0), (3, .grow 99 (zcB m q)), (21, .d (.sl (zaI m.ts))), (22, .d (.raw (.int .i64 m.ts.length))), (23, .d (.raw (.int .i64 q)))], [(0, some (.cell 26 [.d (.sl (zbd m.ms)), .d (.sl (zW m.fs)), .d (.sl (zaI m.ts))]))], [(99, some ⟨4, 60, (zcB m q).length, none⟩)]⟩
theorem zjt {m : Mg} (h : ∀ x ∈ m.ms, zK 4 (zdz x)) (q : Nat) : ∀ r ∈ zdw m q, r.length = 4 := fun r hr => by
 obtain ⟨x, hx, hr⟩ := List.mem_flatMap.1 hr
 exact (h x (List.mem_of_mem_take hx) r hr).1
theorem zlw {m : Mg} (h : ∀ x ∈ m.ms, zK 4 (zdz x)) (q : Nat) : ∀ r ∈ zcB m q, r.length = 4 := fun r hr => by
 rcases List.mem_append.1 hr with h1 | h1
 ·exact zjt h _ r h1
 ·obtain ⟨x, _, rfl⟩ := List.mem_map.1 h1; rfl
theorem zfA (m : Mg) (q : Nat) (h : q < m.ms.length) : zdw m (q + 1) = zdw m q ++ zdz m.ms[q] := by unfold zdw; rw [List.take_succ_eq_append_getElem h, List.flatMap_append]; simp only [List.flatMap_cons, List.flatMap_nil, List.append_nil]
theorem zjY (m : Mg) (q : Nat) (h : q < m.ts.length) : zcB m (q + 1) = zcB m q ++ [spR m.ts[q].path 5 0 0] := by unfold zcB; rw [List.take_succ_eq_append_getElem h, List.map_append, List.map_cons, List.map_nil, List.append_assoc]
theorem zjX (m : Mg) : zcB m 0 = zdw m m.ms.length := by simp [zcB]
theorem zhc (m : Mg) (q : Nat) : (zcB m q).length ≤ (zdw m m.ms.length).length + m.ts.length := by simp [zcB]; omega
theorem zvL (m : Mg) (hl : m.ms.length ≤ 1048576) (ht : m.ts.length ≤ 1048576) (hd : ∀ x ∈ m.ms, x.decls.length ≤ 1048576 ∧ ∀ d ∈ x.decls, zb d.body ≤ 524288) (hr4 : ∀ x ∈ m.ms, zK 4 (zdz x)) (hT : ∀ q, (zdw m q).length ≤ 1099500000000) :
  Con Tryz.prog 38 [avG m] (.d (.sl (zks m))) := by
 refine zj Tryz.func38 rfl (by decide +kernel) rfl rfl (by simp [Tryz.ntmps38]) fun A hA => ?_
 rw [Tryz.ntmps38] at hA
 refine goC 20 ?_
 simp only [go_sem, hA, avG]
 refine zig 99 3 4 60 (by simp only [go_sem]) rfl ?_
 refine goC 400 ?_
 simp only [go_sem, hA, zv]
 refine ze [1, 3, 9, 10, 11] [0] [99] (fun y σ => ∃ q : Nat, q ≤ m.ms.length ∧ y = m.ms.length - q ∧ σ = zwt m q) m.ms.length ⟨0, by omega, by omega, by (simp only [go_sem, zwt]) <;> rfl⟩ ?_
 rintro y σ ⟨q, hq, rfl, rfl⟩
 refine goC 400 ?_
 have hT0 := hT q
 by_cases hlt : q < m.ms.length
 ·have k1 : decide ((q : Int) < (m.ms.length : Int)) = true := decide_eq_true (by omega)
  have hdx := hd _ (List.getElem_mem hlt)
  simp only [go_sem, hA, zwt, k1, zv, Int.toNat_natCast, zbm m.ms q hlt, zfh]
  refine ⟨⟨by omega, by omega⟩, ?_⟩
  refine zc 400 (zzJ m.ms[q] hdx.1 hdx.2) rfl (by simp only [go_sem, avM]) (by simp only [go_sem, hA]) ?_
  simp only [go_sem, hA]
  have hT1 := hT (q + 1)
  rw [zfA m q hlt, List.length_append] at hT1
  exact ⟨⟨hr4 _ (List.getElem_mem hlt), zjt hr4 q, by omega⟩, by unfold zf; omega, m.ms.length - (q + 1), by omega, q + 1, by omega, rfl, by rw [zfA m q hlt, List.length_append]; rfl⟩
 have k1 : decide ((q : Int) < (m.ms.length : Int)) = false := decide_eq_false (by omega)
 obtain rfl : q = m.ms.length := by omega
 simp only [go_sem, hA, zwt, k1, zq]
 refine ze [1, 3, 21, 22, 23] [0] [99] (fun y σ => ∃ q : Nat, q ≤ m.ts.length ∧ y = m.ts.length - q ∧ σ = zws m q) m.ts.length ⟨0, by omega, by omega, by (simp only [go_sem, zws, zjX]) <;> rfl⟩ ?_
 clear hlt k1 hq
 rintro y σ ⟨q, hq, rfl, rfl⟩
 refine goC 400 ?_
 by_cases hlt : q < m.ts.length
 ·have k1 : decide ((q : Int) < (m.ts.length : Int)) = true := decide_eq_true (by omega)
  have hTl := zhc m q
  simp only [go_sem, hA, zws, k1, zq, Int.toNat_natCast, zbP m.ts q hlt, zgs]
  exact ⟨⟨by omega, by omega⟩, ⟨zcC _ _ _ _, zlw hr4 q, by omega⟩, by unfold zf; omega, m.ts.length - (q + 1), by omega, q + 1, by omega, rfl, by rw [zjY m q hlt, List.length_append]; rfl⟩
 have k1 : decide ((q : Int) < (m.ts.length : Int)) = false := decide_eq_false (by omega)
 obtain rfl : q = m.ts.length := by omega
 simp only [go_sem, hA, zws, k1, zks, Tryz.results38]
end
section
open Go Go.RowKit
def zkr (m : Mg) : List (List D) := if zG m = 0 then zks m else []
theorem zBL (m : Mg) (hm : m.Fine) (ht : m.ts.length ≤ 1048576) (hd : ∀ x ∈ m.ms, x.decls.length ≤ 1048576) (hr4 : ∀ x ∈ m.ms, zK 4 (zdz x)) (hT : ∀ q, (zdw m q).length ≤ 1099500000000) :
  Con Tryz.prog 12 [avG m] (.d (.sl (zkr m))) := by
 refine zj Tryz.func12 rfl (by decide +kernel) rfl rfl (by simp [Tryz.ntmps12]) fun A hA => ?_
 rw [Tryz.ntmps12] at hA
 refine goC 400 ?_
 simp only [go_sem, hA, avG]
 refine zc 400 (zdU m hm) rfl (by simp only [go_sem, avG]) (by simp only [go_sem, hA]) ?_
 by_cases hx : zG m = 0
 ·have g : (decide ¬ zG m = 0) = false := by simp [hx]
  have hr : zkr m = zks m := if_pos hx
  simp only [go_sem, hA, g, hr]
  refine zc 400 (zvL m hm.ml ht (fun x h => ⟨hd x h, hm.bd x h⟩) hr4 hT) rfl (by simp only [go_sem, avG]) (by simp only [go_sem, hA]) ?_
  simp only [go_sem, hA, Tryz.results12]
 ·have g : (decide ¬ zG m = 0) = true := by simp [hx]
  have hr : zkr m = [] := if_neg hx
  simp only [go_sem, hA, g, hr, Tryz.results12]
end
section
open Go Go.RowKit
end
section
open Go Go.RowKit
structure Sq where
 label : ByteArray
 kind : Int
 id : Int
 pos : Int
def zhP (x : Sq) : List D := spR x.label x.kind x.id x.pos
def zaq (l : List Sq) : List (List D) := l.map zhP
def avQ (x : Sq) : AV := .agg [.d (.raw (.string x.label)), .d (.raw (.int .i64 x.kind)), .d (.raw (.int .i64 x.id)), .d (.raw (.int .i64 x.pos))]
def eqQ (x y : Sq) : Bool := decide (x.label = y.label) && (decide (x.kind = y.kind) && (decide (x.id = y.id) && decide (x.pos = y.pos)))
theorem zB (l : List Sq) : (zaq l).length = l.length := by simp [zaq]
theorem zee (l : List Sq) (i : Nat) (h : i < l.length) : (zaq l).getD i [] = zhP l[i] := by simp [zaq, List.getD_eq_getElem?_getD, h]
abbrev zzQ (l : List Sq) (x : Sq) (q : Nat) : St := ⟨[(0, .d (.sl (zaq l))), (3, .box 0 0), (7, .d (.raw (.int .i64 l.length))), (8, .d (.raw (.int .i64 q)))], [(0, some (.cell 60 [.d (.raw (.string x.label)), .d (.raw (.int .i64 x.kind)), .d (.raw (.int .i64 x.id)), .d (.raw (.int .i64 x.pos))]))], []⟩
theorem zEp (l : List Sq) (x : Sq) (hl : l.length ≤ 1048576) : Con Tryz.prog 160 [.d (.sl (zaq l)), avQ x] (.d (.raw (.int .i64 (ixF (eqQ x) l)))) := by
 refine zj Tryz.func160 rfl (by decide +kernel) rfl rfl (by simp [Tryz.ntmps160]) fun A hA => ?_
 rw [Tryz.ntmps160] at hA
 refine goC 400 ?_
 simp only [go_sem, hA, avQ, zB]
 refine ze [0, 3, 7, 8] [0] [] (fun y σ => ∃ q : Nat, q ≤ l.length ∧ y = l.length - q ∧ ((l.take q).any (eqQ x)) = false ∧ σ = zzQ l x q) l.length ⟨0, by omega, by omega, rfl, by simp only [go_sem, zzQ]⟩ ?_
 rintro y σ ⟨q, hq, rfl, hf, rfl⟩
 refine goC 400 ?_
 by_cases hlt : q < l.length
 ·have k1 : decide ((q : Int) < (l.length : Int)) = true := decide_eq_true (by omega)
  have he : ((decide (x.label = l[q].label)) && ((decide (x.kind = l[q].kind)) && ((decide (x.id = l[q].id)) && (decide (x.pos = l[q].pos))))) = eqQ x l[q] := rfl
  cases hx : eqQ x l[q] with
  | true =>
   rw [hx] at he
   simp only [go_sem, hA, zzQ, zB, k1, Int.toNat_natCast, zee l q hlt, zhP, spR, String.reduceEq, he, zll hlt hf hx, Tryz.results160]
   exact ⟨⟨by omega, by omega⟩, ⟨by kernel_rfl, by kernel_rfl⟩, by show chk _ _ _ = true; kernel_rfl⟩
  | false =>
   rw [hx] at he
   simp only [go_sem, hA, zzQ, zB, k1, Int.toNat_natCast, zee l q hlt, zhP, spR, String.reduceEq, he]
   exact ⟨⟨by omega, by omega⟩, ⟨by kernel_rfl, by kernel_rfl⟩, by show chk _ _ _ = true; kernel_rfl, by unfold zf; omega, l.length - (q + 1), by omega, q + 1, by omega, rfl, zbq hlt hf hx, rfl⟩
 ·have k1 : decide ((q : Int) < (l.length : Int)) = false := decide_eq_false (by omega)
  obtain rfl : q = l.length := by omega
  rw [List.take_length] at hf
  have hr : ixF (eqQ x) l = -1 := by unfold ixF; rw [hf]; rfl
  simp only [go_sem, hA, zzQ, k1, hr, Tryz.results160]
theorem zDE (l : List Sq) (x : Sq) (hl : l.length ≤ 1048576) : Con Tryz.prog 99 [.d (.sl (zaq l)), avQ x] (.d (.raw (.bool (l.any (eqQ x))))) := by
 refine zj Tryz.func99 rfl (by decide +kernel) rfl rfl (by simp [Tryz.ntmps99]) fun A hA => ?_
 rw [Tryz.ntmps99] at hA
 refine goC 400 ?_
 simp only [go_sem, hA, avQ]
 refine zc 400 (zEp l x hl) rfl (by simp only [go_sem, avQ]) (by simp only [go_sem, hA]) ?_
 simp only [go_sem, hA, zmW, Tryz.results99]
end
section
open Go Go.RowKit
theorem zwq (s : ByteArray) : Con Tryz.prog 164 [.d (.raw (.string s))] (.d (.raw (.bool (zah s)))) := by
 refine zj Tryz.func164 rfl (by decide +kernel) rfl rfl (by simp [Tryz.ntmps164]) fun A hA => ?_
 rw [Tryz.ntmps164] at hA
 have hx : decide (zE (.mk 3 s ⟨#[]⟩ 0 0 []) = 0) = zah s := by
  cases h : zah s with
  | true => exact decide_eq_true ((zfz s).2 h)
  | false => exact decide_eq_false fun h' => by rw [(zfz s).1 h'] at h; cases h
 refine goC 400 ?_
 simp only [go_sem, hA]
 refine zc 400 (zch (.mk 3 s ⟨#[]⟩ 0 0 []) (by simp [zb, nodesL])) rfl (by simp only [go_sem, zw, Ex.kind, Ex.name, Ex.more, Ex.int, Ex.den, Ex.sub, zaY]) (by simp only [go_sem, hA]) ?_
 simp only [go_sem, hA, hx, Tryz.results164]
def zlp : Dc := ⟨0, 0, false, [], false, zhs⟩
def nmX (d : Dc) (nm : ByteArray) : Dc × Bool × Int := if zah nm = true then ({ d with names := [nm] }, true, 0) else (zlp, false, 6)
def zey (d : Dc) (s : Sq) (k : Nat) : Dc × Bool × Int :=
 if s.kind = 1 then nmX d (d.names.getD k ⟨#[]⟩)
 else if s.kind = 2 then (if (zda d.body s.pos k).2 = 0 then ({ d with body := (zda d.body s.pos k).1 }, true, 0) else (zlp, false, (zda d.body s.pos k).2))
 else if k = 2 then (zlp, false, 0)
 else if s.kind = 3 then ({ d with doubt := false }, true, 0)
 else nmX d (d.names.getD 0 ⟨#[]⟩ ++ zoY d.id)
theorem zpH (d : Dc) (s : Sq) (k : Nat) (hk : k < 3) (hb : zb d.body ≤ 1048576) (hid : zf d.id) (h1 : s.kind = 1 → k < d.names.length) (h4 : 0 < d.names.length ∨ s.kind = 2 ∨ s.kind = 3) (hns : ∀ nm ∈ d.names, nm.size ≤ 1099511627776) :
  Con Tryz.prog 101 [avD d, avQ s, .d (.raw (.int .i64 k))] (.tup [avD (zey d s k).1, .d (.raw (.bool (zey d s k).2.1)), .d (.raw (.int .i64 (zey d s k).2.2))]) := by
 refine zj Tryz.func101 rfl (by decide +kernel) rfl rfl (by simp [Tryz.ntmps101]) fun A hA => ?_
 rw [Tryz.ntmps101] at hA
 have e21 : decide ((2 : Int) = 1) = false := by decide
 have e31 : decide ((3 : Int) = 1) = false := by decide
 have e32 : decide ((3 : Int) = 2) = false := by decide
 have hg0 : ∀ x : D, ([[x]] : List (List D)).getD 0 [] = [x] := fun _ => rfl
 refine goC 400 ?_
 by_cases g1 : s.kind = 1
 ·have hr : zey d s k = nmX d (d.names.getD k ⟨#[]⟩) := if_pos g1
  have hk1 := h1 g1
  have hn : d.names.getD k ⟨#[]⟩ = d.names[k] := by simp [List.getD_eq_getElem?_getD, hk1]
  rw [hn] at hr
  simp only [go_sem, hA, avD, avQ, g1, za, Int.toNat_natCast, zJ d.names k hk1, hg0]
  refine ⟨⟨by omega, by omega⟩, ?_⟩
  refine zc 400 (zwq d.names[k]) rfl (by simp only [go_sem]) (by simp only [go_sem, hA]) ?_
  cases hb2 : zah d.names[k] with
  | true =>
   rw [nmX, if_pos hb2] at hr
   simp only [go_sem, hA, hr, Tryz.results101]
   rfl
  | false =>
   rw [nmX, if_neg (by simp [hb2])] at hr
   simp only [go_sem, hA, hr, Tryz.results101]
   rfl
 by_cases g2 : s.kind = 2
 ·have hr : zey d s k = if (zda d.body s.pos k).2 = 0 then ({ d with body := (zda d.body s.pos k).1 }, true, 0) else (zlp, false, (zda d.body s.pos k).2) := by
   unfold zey; rw [if_neg g1, if_pos g2]
  have hc := zyo d.body s.pos k hb
  simp only [go_sem, hA, avD, avQ, g2, e21]
  refine zc 400 hc rfl (by simp only [go_sem, zw]) (by simp only [go_sem, hA]) ?_
  generalize zda d.body s.pos k = r at hr
  obtain ⟨e, er⟩ := r
  simp only [go_sem, hA, zw]
  by_cases he : er = 0
  ·subst he
   rw [if_pos rfl] at hr
   simp only [go_sem, hA, hr, Tryz.results101]
  ·rw [if_neg he] at hr
   simp only [go_sem, hA, he, hr, Tryz.results101]
   rfl
 by_cases gk : k = 2
 ·have hr : zey d s k = (zlp, false, 0) := by unfold zey; rw [if_neg g1, if_neg g2, if_pos gk]
  subst gk
  simp only [go_sem, hA, avD, avQ, g1, g2, hr, Tryz.results101]
  rfl
 have gk' : decide ((k : Int) = 2) = false := decide_eq_false (by omega)
 by_cases g3 : s.kind = 3
 ·have hr : zey d s k = ({ d with doubt := false }, true, 0) := by unfold zey; rw [if_neg g1, if_neg g2, if_neg gk, if_pos g3]
  simp only [go_sem, hA, avD, avQ, g3, gk', e31, e32, hr, Tryz.results101]
 ·have hr : zey d s k = nmX d (d.names.getD 0 ⟨#[]⟩ ++ zoY d.id) := by unfold zey; rw [if_neg g1, if_neg g2, if_neg gk, if_neg g3]
  have h0 : 0 < d.names.length := by
   rcases h4 with h | h | h
   ·exact h
   ·exact absurd h g2
   ·exact absurd h g3
  have hn : d.names.getD 0 ⟨#[]⟩ = d.names[0] := by simp [List.getD_eq_getElem?_getD, h0]
  have hne : (zt d.names).getD 0 [] = [.raw (.string d.names[0])] := zJ d.names 0 h0
  rw [hn] at hr
  simp only [go_sem, hA, avD, avQ, g1, g2, g3, gk', za, hne, mixed]
  refine ⟨by omega, ?_⟩
  refine zbk 400 (zDB d.id hid) rfl (by simp only [go_sem]) (by simp only [go_sem, hA]) ?_
  simp only [go_sem, hA, hg0]
  have hsz := hns _ (List.getElem_mem h0)
  have hil : (zoY d.id).size ≤ 21 := by unfold zf at hid; exact Lib.itoa_length_le d.id (by omega) (by omega)
  refine ⟨by omega, by show chk _ _ _ = true; kernel_rfl, ?_⟩
  refine zc 400 (zwq (d.names[0] ++ zoY d.id)) rfl (by simp only [go_sem]) (by simp only [go_sem, hA]) ?_
  cases hb2 : zah (d.names[0] ++ zoY d.id) with
  | true =>
   rw [nmX, if_pos hb2] at hr
   simp only [go_sem, hA, hr, Tryz.results101]
   rfl
  | false =>
   rw [nmX, if_neg (by simp [hb2])] at hr
   simp only [go_sem, hA, hr, Tryz.results101]
   rfl
end
section
open Go Go.RowKit
theorem zhR {x : Mo} (h : zae x = 0) : zR x.label.data.toList = true ∧ x.decls.length ≤ 100 ∧ ∀ i, i < x.decls.length → bdE x.label x.decls i = 0 := by
 unfold zae at h
 split at h
 ·rename_i hl
  refine ⟨hl, ?_⟩
  split at h
  ·exact absurd h (by assumption)
  split at h
  ·exact absurd h (by assumption)
  split at h
  ·cases h
  ·exact ⟨by omega, zcb h⟩
 ·cases h
theorem zDn {x : Mo} (h : zae x = 0) (i : Nat) (hi : i < x.decls.length) : zbf x.label x.decls[i] = 0 ∧ (0 < i → ∀ hj : i - 1 < x.decls.length, x.decls[i - 1].id < x.decls[i].id) := by
 have h1 := (zhR h).2.2 i hi
 have e0 := zcH x.decls i hi
 unfold bdE at h1
 split at h1
 ·exact absurd h1 (by assumption)
 ·rename_i h2
  have h3 : zbf x.label x.decls[i] = 0 := by rw [← e0]; exact Classical.not_not.1 h2
  refine ⟨h3, fun h0 hj => ?_⟩
  have e1 := zcH x.decls (i - 1) hj
  split at h1
  ·cases h1
  ·rename_i h4
   rw [e0, e1] at h4
   have : ¬ x.decls[i].id ≤ x.decls[i - 1].id := fun hle => h4 ⟨h0, hle⟩
   omega
theorem zzS {x : Mo} (h : zae x = 0) : ∀ (j i : Nat) (hj : j < x.decls.length) (hi : i < j), x.decls[i].id < x.decls[j].id := by
 intro j
 induction j with
 | zero => intro i hj hi; omega
 | succ j ih =>
  intro i hj hi
  have h1 := (zDn h (j + 1) hj).2 (by omega) (by omega)
  have e : j + 1 - 1 = j := by omega
  simp only [e] at h1
  by_cases hij : i = j
  ·subst hij; exact h1
  ·have := ih i (by omega) (by omega); omega
theorem zCp {x : Mo} (h : zae x = 0) {d e : Dc} (hd : d ∈ x.decls) (he : e ∈ x.decls) (hi : d.id = e.id) : d = e := by
 obtain ⟨i, hi1, rfl⟩ := List.mem_iff_getElem.1 hd
 obtain ⟨j, hj1, rfl⟩ := List.mem_iff_getElem.1 he
 rcases Nat.lt_trichotomy i j with h1 | h1 | h1
 ·have := zzS h j i hj1 h1; omega
 ·subst h1; rfl
 ·have := zzS h i j hi1 h1; omega
theorem zvC {x : Mo} (h : zae x = 0) {d : Dc} (hd : d ∈ x.decls) : zbf x.label d = 0 := by
 obtain ⟨i, hi, rfl⟩ := List.mem_iff_getElem.1 hd
 exact (zDn h i hi).1
theorem znz {l : ByteArray} {d : Dc} (h : zbf l d = 0) : 1 ≤ d.id ∧ d.id ≤ 999999 ∧ (d.kind = 1 ∨ d.kind = 2 ∨ d.kind = 3) ∧ zak d.names = 0 ∧ zE d.body = 0 ∧ zcI (fun x => decide (x.kind = 4)) d.body = false ∧ (zdT d.body).length = 0 ∧ zcI (zbZ l) d.body = false := by
 unfold zbf at h
 split at h
 ·cases h
 split at h
 ·cases h
 split at h
 ·exact absurd h (by assumption)
 split at h
 ·exact absurd h (by assumption)
 split at h
 ·cases h
 split at h
 ·cases h
 split at h
 ·cases h
 rename_i h1 h2 h3 h4 h5 h6 h7
 refine ⟨by omega, by omega, ?_, Classical.not_not.1 h3, Classical.not_not.1 h4, by simpa using h5, by omega, by simpa using h7⟩
 by_cases k1 : d.kind = 1
 ·exact .inl k1
 ·by_cases k2 : d.kind = 2
  ·exact .inr (.inl k2)
  ·by_cases k3 : d.kind = 3
   ·exact .inr (.inr k3)
   ·exact absurd ⟨k1, k2, k3⟩ h2
end
section
open Go Go.RowKit
def zbY (b : Bool) (q : Sq) (l : List Sq) : List Sq := if b then l ++ [q] else l
def zdE (s : ByteArray) (i : Int) (n : Nat) (l : List Sq) : List Sq := l ++ (List.range n).map fun (j : Nat) => ⟨s, 2, i, (j : Int)⟩
def zbI (s : ByteArray) (a : List Sq × List ByteArray) (d : Dc) : List Sq × List ByteArray :=
 (zbY (decide (d.names.length = 1) && zbN a.2 (zhK d)) ⟨s, 4, d.id, 0⟩ (zbY d.doubt ⟨s, 3, d.id, 0⟩ (zdE s d.id (confE d.body) (zbY (decide (d.names.length = 3)) ⟨s, 1, d.id, 0⟩ a.1))),
  if d.names.length = 1 then zeh a.2 (zhK d) else a.2)
def zD (x : Mo) (n : Nat) : List Sq × List ByteArray := (x.decls.take n).foldl (zbI x.label) ([], [])
def zhq (x : Mo) : List Sq := (zD x x.decls.length).1
theorem zzr (b : Bool) (s : ByteArray) (k i : Int) (l : List Sq) : zkS b s i k (zaq l) = zaq (zbY b ⟨s, k, i, 0⟩ l) := by cases b <;> simp [zkS, zbY, zaq, zhP]
theorem zzH (s : ByteArray) (i : Int) (n : Nat) (l : List Sq) : zkZ s i n (zaq l) = zaq (zdE s i n l) := by simp [zkZ, zdE, zaq, zhP, Function.comp_def]
theorem zrq (s : ByteArray) (l : List Sq) (fs : List ByteArray) (d : Dc) : zlH s (zaq l, fs) d = (zaq (zbI s (l, fs) d).1, (zbI s (l, fs) d).2) := by
 unfold zlH zbI
 simp only [zzr, zzH]
theorem zhy (x : Mo) : ∀ n, zez x n = (zaq (zD x n).1, (zD x n).2)
 | 0 => rfl
 | n + 1 => by
  by_cases h : n < x.decls.length
  ·have ih := zhy x n
   unfold zez zD at ih ⊢
   rw [List.take_succ_eq_append_getElem h, List.foldl_append, List.foldl_append, ih]
   exact zrq _ _ _ _
  ·have e : ∀ m, x.decls.length ≤ m → x.decls.take m = x.decls := fun m hm => List.take_of_length_le hm
   have ih := zhy x n
   unfold zez zD at ih ⊢
   rw [e _ (by omega)] at ih ⊢
   exact ih
theorem zsX (x : Mo) : (zez x x.decls.length).1 = zaq (zhq x) := by rw [zhy]; rfl
def Spot.At (x : Mo) (d : Dc) (q : Sq) : Prop := q.label = x.label ∧ q.id = d.id ∧ ((q.kind = 1 ∧ d.names.length = 3) ∨ (q.kind = 2 ∧ 0 ≤ q.pos ∧ q.pos < confE d.body) ∨ (q.kind = 3 ∧ d.doubt = true) ∨ (q.kind = 4 ∧ d.names.length = 1))
theorem zmM {b : Bool} {q r : Sq} {l : List Sq} (h : r ∈ zbY b q l) : r ∈ l ∨ (b = true ∧ r = q) := by
 cases b
 ·exact .inl h
 ·rcases List.mem_append.1 (show r ∈ l ++ [q] from h) with h1 | h1
  ·exact .inl h1
  ·exact .inr ⟨rfl, by simpa using h1⟩
theorem zrp {x : Mo} {a : List Sq × List ByteArray} {d : Dc} {q : Sq} (h : q ∈ (zbI x.label a d).1) : q ∈ a.1 ∨ Spot.At x d q := by
 unfold zbI at h
 rcases zmM h with h | ⟨hb, rfl⟩
 ·rcases zmM h with h | ⟨hb, rfl⟩
  ·unfold zdE at h
   rcases List.mem_append.1 h with h | h
   ·rcases zmM h with h | ⟨hb, rfl⟩
    ·exact .inl h
    ·exact .inr ⟨rfl, rfl, .inl ⟨rfl, by simpa using hb⟩⟩
   ·obtain ⟨j, hj, rfl⟩ := List.mem_map.1 h
    have := List.mem_range.1 hj
    exact .inr ⟨rfl, rfl, .inr (.inl ⟨rfl, by simp, by simpa using this⟩)⟩
  ·exact .inr ⟨rfl, rfl, .inr (.inr (.inl ⟨rfl, hb⟩))⟩
 ·simp only [Bool.and_eq_true, decide_eq_true_eq] at hb
  exact .inr ⟨rfl, rfl, .inr (.inr (.inr ⟨rfl, hb.1⟩))⟩
theorem zhx {x : Mo} {q : Sq} : ∀ n, q ∈ (zD x n).1 → ∃ d ∈ x.decls, Spot.At x d q
 | 0, h => by cases h
 | n + 1, h => by
  by_cases hn : n < x.decls.length
  ·have e : zD x (n + 1) = zbI x.label (zD x n) x.decls[n] := by
    unfold zD
    rw [List.take_succ_eq_append_getElem hn, List.foldl_append]; rfl
   rw [e] at h
   rcases zrp h with h | h
   ·exact zhx n h
   ·exact ⟨_, List.getElem_mem hn, h⟩
  ·have e : zD x (n + 1) = zD x n := by
    unfold zD
    rw [List.take_of_length_le (by omega), List.take_of_length_le (by omega)]
   rw [e] at h
   exact zhx n h
theorem ziQ {x : Mo} {q : Sq} (h : q ∈ zhq x) : ∃ d ∈ x.decls, Spot.At x d q := zhx _ h
theorem zpi (l : List Sq) : zK 4 (zaq l) := by
 intro r hr
 obtain ⟨x, _, rfl⟩ := List.mem_map.1 hr
 exact ⟨rfl, fun x hx => by simp [zhP, spR] at hx; rcases hx with rfl | rfl | rfl | rfl <;> rfl⟩
theorem zlG (x : Mo) (hb : ∀ d ∈ x.decls, zb d.body ≤ 524288) : ∀ n, (zD x n).1.length ≤ n * 524292
 | 0 => by simp [zD]
 | n + 1 => by
  have ih := zlG x hb n
  by_cases hn : n < x.decls.length
  ·have e : zD x (n + 1) = zbI x.label (zD x n) x.decls[n] := by
    unfold zD
    rw [List.take_succ_eq_append_getElem hn, List.foldl_append]; rfl
   have h1 := hb _ (List.getElem_mem hn)
   have h2 := zet x.decls[n].body
   have hp : ∀ (b : Bool) (q : Sq) (l : List Sq), (zbY b q l).length ≤ l.length + 1 := fun b q l => by cases b <;> simp [zbY]
   have h3 := hp (decide (x.decls[n].names.length = 1) && zbN (zD x n).2 (zhK x.decls[n])) ⟨x.label, 4, x.decls[n].id, 0⟩ (zbY x.decls[n].doubt ⟨x.label, 3, x.decls[n].id, 0⟩ (zdE x.label x.decls[n].id (confE x.decls[n].body) (zbY (decide (x.decls[n].names.length = 3)) ⟨x.label, 1, x.decls[n].id, 0⟩ (zD x n).1)))
   have h4 := hp x.decls[n].doubt ⟨x.label, 3, x.decls[n].id, 0⟩ (zdE x.label x.decls[n].id (confE x.decls[n].body) (zbY (decide (x.decls[n].names.length = 3)) ⟨x.label, 1, x.decls[n].id, 0⟩ (zD x n).1))
   have h5 := hp (decide (x.decls[n].names.length = 3)) ⟨x.label, 1, x.decls[n].id, 0⟩ (zD x n).1
   have h6 : (zdE x.label x.decls[n].id (confE x.decls[n].body) (zbY (decide (x.decls[n].names.length = 3)) ⟨x.label, 1, x.decls[n].id, 0⟩ (zD x n).1)).length = (zbY (decide (x.decls[n].names.length = 3)) ⟨x.label, 1, x.decls[n].id, 0⟩ (zD x n).1).length + confE x.decls[n].body := by simp [zdE]
   rw [e]
   unfold zbI
   simp only
   generalize zbY (decide (x.decls[n].names.length = 3)) _ _ = l1 at h3 h4 h5 h6 ⊢
   generalize zdE _ _ _ l1 = l2 at h3 h4 h6 ⊢
   generalize zbY x.decls[n].doubt _ l2 = l3 at h3 h4 ⊢
   generalize zbY _ _ l3 = l4 at h3 ⊢
   generalize confE x.decls[n].body = c at h2 h6
   generalize zb x.decls[n].body = c2 at h1 h2
   rw [Nat.succ_mul]
   generalize n * 524292 = m at ih ⊢
   generalize (zD x n).1.length = k0 at ih h5
   clear hp e hb hn
   omega
  ·have e : zD x (n + 1) = zD x n := by
    unfold zD
    rw [List.take_of_length_le (by omega), List.take_of_length_le (by omega)]
   rw [e]; exact Nat.le_trans ih (Nat.mul_le_mul_right _ (Nat.le_succ n))
end
section
open Go Go.RowKit
end
section
open Go Go.RowKit
def zlf {α : Type} (p : α → α → Bool) : List α → List α → Bool
 | [], [] => true
 | x :: xs, y :: ys => p x y && zlf p xs ys
 | _, _ => false
theorem zjd {α : Type} {p : α → α → Bool} (hp : ∀ x y, p x y = true ↔ x = y) : ∀ a b : List α, zlf p a b = true ↔ a = b
 | [], [] => by simp [zlf]
 | x :: xs, y :: ys => by simp only [zlf, Bool.and_eq_true, hp, zjd hp xs ys, List.cons.injEq]
 | [], y :: ys => by simp [zlf]
 | x :: xs, [] => by simp [zlf]
theorem znF {α : Type} {p : α → α → Bool} (hp : ∀ x y, p x y = true ↔ x = y) {a b : List α} (h : a ≠ b) : zlf p a b = false := by
 cases hc : zlf p a b
 ·rfl
 ·exact absurd ((zjd hp a b).1 hc) h
theorem zfL (x y : Sq) : eqQ x y = true ↔ x = y := by
 obtain ⟨a1, a2, a3, a4⟩ := x
 obtain ⟨b1, b2, b3, b4⟩ := y
 simp [eqQ]
abbrev zyS (l m : List Sq) (q : Nat) : St := ⟨[(0, .d (.sl (zaq l))), (1, .d (.sl (zaq m))), (5, .d (.raw (.int .i64 q)))], [], []⟩
theorem zpU (l m : List Sq) (hl : l.length ≤ 1048576) : Con Tryz.prog 11 [.d (.sl (zaq l)), .d (.sl (zaq m))] (.d (.raw (.bool (zlf eqQ l m)))) := by
 refine zj Tryz.func11 rfl (by decide +kernel) rfl rfl (by simp [Tryz.ntmps11]) fun A hA => ?_
 rw [Tryz.ntmps11] at hA
 refine goC 300 ?_
 by_cases hlm : l.length = m.length
 ·have g0 : (decide ¬ (l.length : Int) = (m.length : Int)) = false := decide_eq_false (by omega)
  simp only [go_sem, hA, zB, g0]
  refine ze [0, 1, 5] [] [] (fun x σ => ∃ q : Nat, q ≤ l.length ∧ x = l.length - q ∧ l.take q = m.take q ∧ σ = zyS l m q) l.length ⟨0, by omega, by omega, rfl, by simp only [go_sem, zyS]⟩ ?_
  rintro x σ ⟨q, hq, rfl, hf, rfl⟩
  refine goC 400 ?_
  by_cases hlt : q < l.length
  ·have g1 : decide ((q : Int) < (l.length : Int)) = true := decide_eq_true (by omega)
   have hq2 : q < m.length := by omega
   obtain ⟨d, hd⟩ : ∃ d, l[q] = d := ⟨_, rfl⟩
   obtain ⟨e, he⟩ : ∃ e, m[q] = e := ⟨_, rfl⟩
   have hr : ((decide (d.label = e.label)) && ((decide (d.kind = e.kind)) && ((decide (d.id = e.id)) && (decide (d.pos = e.pos))))) = eqQ d e := rfl
   cases hs : eqQ d e with
   | true =>
    have hde := (zfL d e).1 hs
    rw [hs] at hr
    simp only [go_sem, hA, zyS, zB, g1, Int.toNat_natCast, zee l q hlt, zee m q hq2, hd, he, zhP, spR, String.reduceEq, hr, Bool.not_true, mixed]
    exact ⟨⟨by omega, by omega⟩, ⟨by omega, by omega⟩, ⟨by kernel_rfl, by kernel_rfl⟩, by show chk _ _ _ = true; kernel_rfl, by unfold zf; omega, l.length - (q + 1), by omega, q + 1, by omega, rfl, by rw [List.take_succ_eq_append_getElem hlt, List.take_succ_eq_append_getElem hq2, hf, hd, he, hde], rfl⟩
   | false =>
    rw [hs] at hr
    have hne : zlf eqQ l m = false := znF zfL fun e' => by
     subst e'
     rw [hd] at he
     rw [(zfL d e).2 he] at hs
     cases hs
    simp only [go_sem, hA, zyS, zB, g1, Int.toNat_natCast, zee l q hlt, zee m q hq2, hd, he, zhP, spR, String.reduceEq, hr, Bool.not_false, hne, mixed, Tryz.results11]
    exact ⟨⟨by omega, by omega⟩, ⟨by omega, by omega⟩, ⟨by kernel_rfl, by kernel_rfl⟩, by show chk _ _ _ = true; kernel_rfl⟩
  ·have g1 : decide ((q : Int) < (l.length : Int)) = false := decide_eq_false (by omega)
   obtain rfl : q = l.length := by omega
   have he : l = m := by rw [List.take_length, List.take_of_length_le (by omega)] at hf; exact hf
   have hs : zlf eqQ l m = true := (zjd zfL _ _).2 he
   simp only [go_sem, hA, zyS, zB, g1, Tryz.results11, hs]
 ·have g0 : (decide ¬ (l.length : Int) = (m.length : Int)) = true := decide_eq_true (by omega)
  have hne : zlf eqQ l m = false := znF zfL fun e => hlm (by rw [e])
  simp only [go_sem, hA, zB, g0, Tryz.results11, hne]
end
section
open Go Go.RowKit
variable {P : Program} {A : Base P} {σ : St} {g : Gh} {a : Act} {w : World}
theorem Ok.appendedW (hk : Ok A σ g a w) {r : Nat} {k : Tok} {rows rows2 : List (List D)} {v x : Value} {t ty : TypeId} {z : Value} (hr : σ.tok r = some k) (hex : k.ex = none) (hv : Has g σ.tk w (.grow r rows) v) (hlen : rows.length = k.len) (hx : Reads w g.F (.sl rows2) x)
  (ht : P.underlying t = some (.slice k.ty)) (hz : zy P k.ty = some z) (hzs : z.cells.size = P.cellsOf k.ty) (h0 : P.cellsOf k.ty ≠ 0) (hst : P.cellsOf k.ty = k.st) (hby : P.bytesOf k.ty ≤ 1024) (hfit : zK k.st rows2) (hfit0 : ∀ r ∈ rows, r.length = k.st) (hbd : rows.length + rows2.length ≤ 137438953472) :
  ∃ g' v' w', (Builtin.append_ #[t, t] ty #[v, x]).run P w = .ok v' w' ∧ Ok A (σ.setTok r (some { k with len := k.len + rows2.length })) g' a w' ∧ Has g' (σ.setTok r (some { k with len := k.len + rows2.length })).tk w' (.grow r (rows ++ rows2)) v' := by
 obtain ⟨hrd, htv⟩ := hv.grow_eq
 have hve : v = g.tv r := (htv k.len (by simp [St.tk, hr])).2 hlen
 obtain ⟨xs, hown⟩ := (hk.tok r k hr).own hex
 have htk : (σ.setTok r (some { k with len := k.len + rows2.length })).tk r = some (k.len + rows2.length) := by simp [St.tk, St.tok_setTok]
 by_cases hm : rows2 = []
 ·subst hm
  obtain ⟨q, c, hxe, _⟩ := hx.slice
  have hr0 := zdp (P := P) (w := w) (t := t) (ty := ty) (v := v) (x := x) (n := k.len) ht h0 (by
   rw [hve]
   rcases hown.2 with h1 | ⟨b, cap, cur, h1, _, _, h2, _⟩
   ·exact .inl h1
   ·exact .inr ⟨b, cap, h1, h2⟩) ⟨q, c, hxe⟩
  have hg : w.grownBy w (g.tv r).ownBlock := ⟨rfl, rfl, rfl, Nat.le_refl _, fun _ _ _ => rfl⟩
  obtain ⟨h1, e1⟩ := hk.append (m := 0) (v' := g.tv r) (w' := w) (xs := xs) hr hex (by simpa using hown) hg (Below.refl _ _) (fun _ _ _ _ => rfl) (.inl rfl) (fun _ => rfl)
  refine ⟨_, v, w, hr0, h1, .grow r _ _ ?_ fun n' hn' => ?_⟩
  ·rw [List.append_nil]; exact hrd.mono e1.hF e1.hw
  ·simp only [List.append_nil, List.length_nil, Nat.add_zero] at hn' ⊢
   simp only [St.tk, St.tok_setTok, if_pos, Option.map_some, Option.some.injEq] at hn'
   subst hn'
   exact ⟨by omega, fun _ => by simp only [zn]; exact hve⟩
 ·obtain ⟨b, off, c, news, hxe, hnl, hnews, hone, hnr⟩ := hx.news (st := k.st) (fun q hq => (hfit q hq).1) (fun q hq => (hfit q hq).2) hm
  obtain ⟨i, hi, hzi⟩ : ∃ i, P.info? k.ty = some i ∧ i.zero = some z := by
   unfold zy at hz
   cases hi : P.info? k.ty with
   | none => simp [hi] at hz
   | some i => exact ⟨i, rfl, by simpa [hi] using hz⟩
  have hsz : i.size = k.st := by rw [← hst]; simp [Program.cellsOf, hi]
  have hbi : i.bytes = P.bytesOf k.ty := by simp [Program.bytesOf, hi]
  have hbb : (k.len + rows2.length) * P.bytesOf k.ty ≤ 140737488355328 := by
   have h1 := Nat.mul_le_mul (show k.len + rows2.length ≤ 137438953472 by omega) hby
   omega
  obtain ⟨v', w', hr', hown', hg, _, hat⟩ := run_append_own_at (P := P) w A.B t ty k.ty i z k.st (P.bytesOf k.ty) ht hi hzi hsz hbi (by rw [hzs, hst]) (by omega) (g.tv r) k.len xs hown ⟨b, off, none⟩ rows2.length c news hnl hnews hone (by unfold maxLen; omega) hbb hk.hB
  have hbel : Below A.B w w' := ⟨hg.os, hg.tape, hg.output, hg.size, fun q hq => hg.block q (by have := hk.hB; omega) (fun e => by have := (hown.lt q e.symm).1; omega)⟩
  have hxs : xs.length = k.len * k.st := hown.1
  have hpos2 : 0 < rows2.length := by
   cases rows2 with
   | nil => exact absurd rfl hm
   | cons => simp
  -- either the same block, or a new one, and the elder block is asL it was
  have hat2 : v'.ownBlock = (g.tv r).ownBlock ∨ ∀ q, q < w.heap.size → w'.heap[q]? = w.heap[q]? := by
   rcases hown.2 with ⟨h1, h2⟩ | ⟨gb, cap, cur, h1, _, h3, h4, _⟩
   ·have hr2 := run_append_nil (P := P) (w := w) t ty k.ty i z ht hi hzi ⟨b, off, none⟩ rows2.length c news (by rw [hnl, hsz]) hnews hpos2 (by omega) (by rw [hbi]; have := Nat.mul_le_mul (show rows2.length ≤ 137438953472 by omega) hby; omega)
    rw [h1] at hr'
    rw [hr'] at hr2
    injection hr2 with _ hw2
    right
    intro q hq
    rw [hw2]
    exact Below.heap_alloc w.drew _ q hq
   ·by_cases hroom : k.len + rows2.length ≤ cap
    ·have hcs : k.len * i.size + news.length ≤ cur.size := by
      rename_i _ h6
      obtain ⟨_, h6, _⟩ := h6
      rw [hnl, hsz, h6, ← Nat.add_mul]
      exact Nat.mul_le_mul_right _ hroom
     have hr2 := run_append_room (P := P) w t ty k.ty i ht hi gb k.len cap cur h3 ⟨b, off, none⟩ rows2.length c news (by rw [hnl, hsz]) hnews hone hroom hcs
     rw [h1] at hr'
     rw [hr'] at hr2
     injection hr2 with hv2 _
     left
     rw [hv2, h1]; rfl
    ·have holds := hown.cells (g := gb) (by rw [h1]; rfl)
     have hr2 := run_append_grow (P := P) w t ty k.ty i z ht hi hzi ⟨gb, 0, none⟩ k.len cap xs (by rw [hown.1, hsz]) holds ⟨b, off, none⟩ rows2.length c news (by rw [hnl, hsz]) hnews (by omega) (by omega) (growslice_fits_wide (by omega) (by
      rw [hbi]
      have := Nat.mul_le_mul (show k.len + rows2.length + (k.len + rows2.length) / 4 + 192 ≤ 274877906944 by omega) hby
      omega))
     rw [h1] at hr'
     rw [hr'] at hr2
     injection hr2 with _ hw2
     right
     intro q hq
     rw [hw2]
     exact Below.heap_alloc w.drew _ q hq
  have hkeep : ∀ q o, (g.tv r).ownBlock = some q → o < k.len * k.st → w'.cell? ⟨q, o, none⟩ = w.cell? ⟨q, o, none⟩ := fun q o hq ho => by
   rcases hat2 with h2 | h2
   ·have h1 := hown.cells (g := q) hq o xs[o] (List.getElem?_eq_getElem (by omega))
    rw [Addr.add_lit, Nat.zero_add] at h1
    rw [h1]
    have h3 := hown'.cells (g := q) (h2.trans hq) o xs[o] (by rw [List.getElem?_append_left (by omega)]; exact List.getElem?_eq_getElem (by omega))
    rw [Addr.add_lit, Nat.zero_add] at h3
    exact h3
   ·exact zaQ (h2 q (hown.lt q hq).2)
  obtain ⟨h1, e1⟩ := hk.append (m := rows2.length) (v' := v') (w' := w') (xs := xs ++ news) hr hex hown' hg hbel hkeep hat (fun h => absurd (List.eq_nil_of_length_eq_zero h) hm)
  refine ⟨_, v', w', by rw [hve, hxe]; exact hr', h1, .grow r _ _ ?_ fun n' hn' => ?_⟩
  ·suffices key : ∀ G : Nat → Nat → Prop, (∀ b o, zsB g.F v' ((k.len + rows2.length) * k.st) b o → G b o) → Reads w' G (.sl (rows ++ rows2)) v' from key _ (fun _ _ h => h)
   intro G hG
   rcases hown'.2 with ⟨_, h2⟩ | ⟨gb2, cap2, cur, hv2, _, _, hcap, _⟩
   ·omega
   ·have hll : (rows ++ rows2).length = k.len + rows2.length := by rw [List.length_append, hlen]
    rw [hv2, ← hll]
    have hcell' := hown'.cells (g := gb2) (by rw [hv2]; rfl)
    refine Reads.mk (st := k.st) (by omega) (fun i hi => ?_) fun i hi j hj => ?_
    ·rcases List.mem_append.1 (List.getElem_mem hi) with h3 | h3
     ·exact hfit0 _ h3
     ·exact (hfit _ h3).1
    ·have hF : zsB g.F v' ((k.len + rows2.length) * k.st) gb2 (0 + i * k.st + j) := by
      right
      refine ⟨by rw [hv2]; rfl, ?_⟩
      have hjs : j < k.st := by
       rcases List.mem_append.1 (List.getElem_mem hi) with h3 | h3
       ·rw [hfit0 _ h3] at hj; exact hj
       ·rw [(hfit _ h3).1] at hj; exact hj
      have := Nat.mul_le_mul_right k.st (show i + 1 ≤ k.len + rows2.length by omega)
      rw [Nat.add_mul] at this; omega
     refine ⟨hG _ _ hF, ?_⟩
     by_cases hlt : i < rows.length
     ·have hrow : (rows ++ rows2)[i] = rows[i] := List.getElem_append_left hlt
      have hj1 : j < rows[i].length := by rw [← hrow]; exact hj
      have hel : (rows ++ rows2)[i][j] = rows[i][j] := by congr 1
      have hst1 : rows[i].length = k.st := hfit0 _ (List.getElem_mem hlt)
      obtain ⟨q, cc, hve2, _⟩ := hrd.slice
      have hrd2 := hrd
      rw [hve2] at hrd2
      obtain ⟨b1, off1, rfl, hc1⟩ := hrd2.row i hlt hst1
      obtain ⟨_, u, hu, hru⟩ := hc1 j hj1
      rcases hown.2 with ⟨h5, h6⟩ | ⟨gb, cap, cur1, h5, _⟩
      ·omega
      ·rw [← hve, hve2] at h5
       injection h5 with h7 _ _
       injection h7 with h8
       have hb1 : b1 = gb := congrArg Addr.block h8
       have ho1 : off1 = 0 := congrArg Addr.off h8
       subst hb1 ho1
       have hm1 : i * k.st + j < xs.length := by
        rw [hown.1]
        have := Nat.mul_le_mul_right k.st (show i + 1 ≤ k.len by omega)
        rw [Nat.add_mul] at this; omega
       have h9 := hown.cells (g := b1) (by rw [← hve, hve2]; rfl) (i * k.st + j) xs[i * k.st + j] (List.getElem?_eq_getElem hm1)
       rw [Addr.add_lit] at h9
       have hu' : xs[i * k.st + j] = u := by
        rw [Nat.add_assoc] at hu
        exact Option.some.inj (h9.symm.trans hu)
       have h10 := hcell' (i * k.st + j) u (by rw [List.getElem?_append_left hm1, List.getElem?_eq_getElem hm1, hu'])
       rw [Addr.add_lit] at h10
       rw [hel]
       exact ⟨u, by rw [Nat.add_assoc]; exact h10, hru.mono (fun b o hf => hG b o (e1.hF b o hf)) e1.hw⟩
     ·have hi2 : i - rows.length < rows2.length := by rw [List.length_append] at hi; omega
      have hrow : (rows ++ rows2)[i] = rows2[i - rows.length] := List.getElem_append_right (by omega)
      have hj1 : j < rows2[i - rows.length].length := by rw [← hrow]; exact hj
      have hel : (rows ++ rows2)[i][j] = rows2[i - rows.length][j] := by congr 1
      obtain ⟨u, hu, hru⟩ := hnr _ hi2 j hj1
      have hidx : i * k.st + j - xs.length = (i - rows.length) * k.st + j := by
       rw [hown.1, ← hlen, Nat.sub_mul]
       have := Nat.mul_le_mul_right k.st (show rows.length ≤ i by omega)
       omega
      have hge : xs.length ≤ i * k.st + j := by
       rw [hown.1, ← hlen]
       have := Nat.mul_le_mul_right k.st (show rows.length ≤ i by omega)
       omega
      have h10 := hcell' (i * k.st + j) u (by rw [List.getElem?_append_right hge, hidx]; exact hu)
      rw [Addr.add_lit] at h10
      rw [hel]
      exact ⟨u, by rw [Nat.add_assoc]; exact h10, hru.mono (fun b o hf => hG b o (e1.hF b o hf)) e1.hw⟩
  ·rw [htk] at hn'
   cases hn'
   exact ⟨by rw [List.length_append]; omega, fun _ => by simp only [zn]⟩
theorem ziw {o : Oper} {t : TypeId} {p q : Operand} {r : Nat} {rows rows2 : List (List D)} {k : Tok} {z : Value} (ho : o.op = .call { callee := .builtin .append, args := #[p, q], argTypes := #[t, t] }) (hp : σ.eval p = .grow r rows) (hq : (σ.eval q).rows = some rows2) (hr : σ.tok r = some k) (hex : k.ex = none)
  (ht : P.underlying t = some (.slice k.ty)) (hz : zy P k.ty = some z) (hzs : z.cells.size = P.cellsOf k.ty) (h0 : P.cellsOf k.ty ≠ 0) (hst : P.cellsOf k.ty = k.st) (hby : P.bytesOf k.ty ≤ 1024) (hlen : rows.length = k.len) (hfit : zK k.st rows2) (hfit0 : ∀ r ∈ rows, r.length = k.st) (hbd : rows.length + rows2.length ≤ 137438953472) :
  zO P A o σ (σ.setTok r (some { k with len := k.len + rows2.length })) (.grow r (rows ++ rows2)) := by
 refine zau fun g a w hk => ?_
 have hpe := hk.eval p
 rw [hp] at hpe
 obtain ⟨g', v', w', h1, h2, h3⟩ := hk.appendedW (P := P) (t := t) (ty := o.type) hr hex hpe hlen ((hk.eval q).rows hq) ht hz hzs h0 hst hby hfit hfit0 hbd
 exact ⟨g', v', w', by simp only [execOp, ho, resolve, invoke, builtin, List.map_toArray, List.map_cons, List.map_nil, Sem.run_bind, Sem.run_pure, Result.andThen_ok, h1], h2, h3⟩
end
end Go.Proofs.YtpnjjmcimjlfkaaGreatDoor
