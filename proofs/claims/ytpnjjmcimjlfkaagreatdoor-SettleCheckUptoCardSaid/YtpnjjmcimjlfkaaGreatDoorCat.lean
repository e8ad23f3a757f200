/- Texts of this proof, part 20: what the proof uses of them. -/
import Derived.Test.YtpnjjmcimjlfkaaGreatDoorCas
import Derived.Test.YtpnjjmcimjlfkaaGreatDoorCaf
import Derived.Lib.BufferMore
set_option maxRecDepth 100000
set_option maxHeartbeats 64000000
namespace Go.Proofs.YtpnjjmcimjlfkaaGreatDoor
section
open Go Go.RowKit
def zex : Mo := ⟨⟨#[]⟩, [], []⟩
def zkx (s : Sq) (k : Nat) (d : Dc) : List Dc := if d.id = s.id then (if (zey d s k).2.1 = true then [(zey d s k).1] else []) else [d]
def zqF (s : Sq) (k : Nat) (l : List Dc) (q : Nat) : Int := if (atD l q).id = s.id then (zey (atD l q) s k).2.2 else 0
def zfb (s : Sq) (k : Nat) (l : List Dc) (q : Nat) : List Dc := (l.take q).flatMap (zkx s k)
def zdD (x : Mo) (s : Sq) (k : Nat) : Mo × Int :=
 if ¬ zae x = 0 then (zex, zae x) else if (zhq x).any (eqQ s) = false then (zex, 8) else if k = 1 ∧ (s.kind = 3 ∨ s.kind = 4) then (zex, 2)
 else if ¬ zl (zqF s k x.decls) x.decls.length = 0 then (zex, zl (zqF s k x.decls) x.decls.length) else (⟨x.label, x.uses, zfb s k x.decls x.decls.length⟩, 0)
theorem zmV (s : Sq) (k : Nat) (l : List Dc) (q : Nat) (h : q < l.length) : zfb s k l (q + 1) = zfb s k l q ++ zkx s k l[q] := by
 unfold zfb; rw [List.take_succ_eq_append_getElem h, List.flatMap_append]; simp only [List.flatMap_cons, List.flatMap_nil, List.append_nil]
theorem zzM (s : Sq) (k : Nat) (d : Dc) : (zkx s k d).length ≤ 1 := by
 unfold zkx
 split
 ·split <;> simp
 ·simp
theorem ziB (s : Sq) (k : Nat) (l : List Dc) : ∀ q, (zfb s k l q).length ≤ q
 | 0 => by simp [zfb]
 | q + 1 => by
  by_cases h : q < l.length
  ·rw [zmV s k l q h, List.length_append]
   have := ziB s k l q
   have := zzM s k l[q]
   omega
  ·have e : zfb s k l (q + 1) = zfb s k l q := by unfold zfb; rw [List.take_of_length_le (by omega), List.take_of_length_le (by omega)]
   rw [e]; exact Nat.le_succ_of_le (ziB s k l q)
theorem ziP (a b : List Dc) : zaW (a ++ b) = zaW a ++ zaW b := by simp [zaW]
theorem zgS (l : List Dc) : zK 11 (zaW l) := by
 intro r hr
 obtain ⟨x, _, rfl⟩ := List.mem_map.1 hr
 exact ⟨rfl, fun x hx => by simp [zdm] at hx; rcases hx with rfl | rfl | rfl | rfl | rfl | rfl | rfl | rfl | rfl | rfl | rfl <;> rfl⟩
abbrev zso (x : Mo) (s : Sq) (k : Nat) (l : List Dc) (q : Nat) : St := ⟨[(2, .d (.raw (.int .i64 k))), (3, .box 0 0), (4, .box 1 0), (6, .box 2 0), (9, .box 8005 0), (54, .d (.sl (zaW x.decls))), (55, .d (.raw (.int .i64 x.decls.length))), (56, .d (.raw (.int .i64 q)))],
 [(0, some (.cell 56 [.d (.raw (.string x.label)), .d (.sl (zt x.uses)), .d (.sl (zaW x.decls))])), (1, some (.cell 60 [.d (.raw (.string s.label)), .d (.raw (.int .i64 s.kind)), .d (.raw (.int .i64 s.id)), .d (.raw (.int .i64 s.pos))])),
  (2, some (.cell 56 [.d (.raw (.string ⟨#[]⟩)), .d (.raw (.slice none 0 0)), .d (.raw (.slice none 0 0))])), (8005, some (.cell 56 [.d (.raw (.string x.label)), .d (.sl (zt x.uses)), .grow 99 (zaW l)]))], [(99, some ⟨11, 107, l.length, none⟩)]⟩
theorem zuU {l : List ByteArray} (h : zak l = 0) : (l.length = 1 ∨ l.length = 3) ∧ ∀ nm ∈ l, nm.size ≤ 24 := by
 unfold zak at h
 split at h
 ·cases h
 rename_i h1
 refine ⟨by omega, fun nm hnm => ?_⟩
 split at h
 ·cases h
 rename_i h2
 have h3 : zN l nm = false := by
  cases hb : zN l nm with
  | false => rfl
  | true => exact absurd (List.any_eq_true.2 ⟨nm, hnm, hb⟩) h2
 unfold zN at h3
 cases hn : zah nm with
 | true => exact zuV hn
 | false =>
  rw [hn] at h3
  simp only [Bool.not_false, Bool.true_and, Bool.or_eq_false_iff, decide_eq_false_iff_not, Classical.not_not] at h3
  rw [h3.2]; decide
theorem zsp (x : Mo) (s : Sq) (k : Nat) (hk : k < 3) (hl : x.decls.length ≤ 1048576) (hb : ∀ d ∈ x.decls, zb d.body ≤ 524288) (hc : (zhq x).length ≤ 1048576) :
  Con Tryz.prog 43 [avM x, avQ s, .d (.raw (.int .i64 k))] (.tup [avM (zdD x s k).1, .d (.raw (.int .i64 (zdD x s k).2))]) := by
 refine zj Tryz.func43 rfl (by decide +kernel) rfl rfl (by simp [Tryz.ntmps43]) fun A hA => ?_
 rw [Tryz.ntmps43] at hA
 refine goC 400 ?_
 have hr0 : zdD x s k = if ¬ zae x = 0 then (zex, zae x) else if (zhq x).any (eqQ s) = false then (zex, 8) else if k = 1 ∧ (s.kind = 3 ∨ s.kind = 4) then (zex, 2)
  else if ¬ zl (zqF s k x.decls) x.decls.length = 0 then (zex, zl (zqF s k x.decls) x.decls.length) else (⟨x.label, x.uses, zfb s k x.decls x.decls.length⟩, 0) := rfl
 simp only [go_sem, hA, avM, avQ]
 refine zc 400 (zvz x hb) rfl (by simp only [go_sem, avM]) (by simp only [go_sem, hA]) ?_
 by_cases hbx : zae x = 0
 case neg =>
  have g1 : (decide ¬ zae x = 0) = true := decide_eq_true hbx
  rw [if_pos hbx] at hr0
  simp only [go_sem, hA, g1, hr0, Tryz.results43]
  rfl
 have g1 : (decide ¬ zae x = 0) = false := by simp [hbx]
 rw [if_neg (by simp [hbx])] at hr0
 simp only [go_sem, hA, g1, mixed]
 refine zbk 400 (zsq x hl hb) rfl (by simp only [go_sem, avM]) (by simp only [go_sem, hA]) ?_
 rw [zsX x]
 simp only [go_sem, hA]
 refine zbk 400 (zDE (zhq x) s hc) rfl (by simp only [go_sem, avQ]) (by simp only [go_sem, hA]) ?_
 simp only [go_sem, hA]
 refine ⟨by show chk _ _ _ = true; kernel_rfl, ?_⟩
 cases hin : (zhq x).any (eqQ s) with
 | false =>
  rw [if_pos hin] at hr0
  simp only [go_sem, hA, hr0, Tryz.results43]
  rfl
 | true =>
 rw [if_neg (by simp [hin])] at hr0
 have dk0 : decide ((k : Int) < 0) = false := decide_eq_false (by omega)
 have dk2 : decide ((2 : Int) < (k : Int)) = false := decide_eq_false (by omega)
 by_cases href : k = 1 ∧ (s.kind = 3 ∨ s.kind = 4)
 ·rw [if_pos href] at hr0
  have d1 : decide ((k : Int) = 1) = true := decide_eq_true (by have := href.1; omega)
  rcases href.2 with h | h
  ·have d3 : decide (s.kind = 3) = true := decide_eq_true h
   simp only [go_sem, hA, dk0, dk2, d1, d3, undef, hr0, Tryz.results43]
   rfl
  ·have d3 : decide (s.kind = 3) = false := decide_eq_false (by omega)
   have d4 : decide (s.kind = 4) = true := decide_eq_true h
   simp only [go_sem, hA, dk0, dk2, d1, d3, d4, hr0, Tryz.results43]
   rfl
 rw [if_neg href] at hr0
 obtain ⟨b1, d1⟩ : ∃ b, decide ((k : Int) = 1) = b := ⟨_, rfl⟩
 have d34 : b1 = true → decide (s.kind = 3) = false ∧ decide (s.kind = 4) = false := fun h => by
  subst h
  have hk1 : k = 1 := by have := of_decide_eq_true d1; omega
  exact ⟨decide_eq_false fun e => href ⟨hk1, .inl e⟩, decide_eq_false fun e => href ⟨hk1, .inr e⟩⟩
 have pre : ∀ d ∈ x.decls, d.id = s.id → zf d.id ∧ (s.kind = 1 → k < d.names.length) ∧ (0 < d.names.length ∨ s.kind = 2 ∨ s.kind = 3) ∧ ∀ nm ∈ d.names, nm.size ≤ 1099511627776 := fun d hd hid => by
  obtain ⟨q, hq, hqe⟩ := List.any_eq_true.1 hin
  have hqs := (zfL s q).1 hqe
  subst hqs
  obtain ⟨e, he, hat⟩ := ziQ hq
  have hde : d = e := zCp hbx hd he (hid.trans hat.2.1)
  subst hde
  obtain ⟨o1, o2, _, o3, _⟩ := znz (zvC hbx hd)
  have o4 := zuU o3
  refine ⟨by unfold zf; omega, fun h1 => ?_, .inl (by omega), fun nm hnm => Nat.le_trans (o4.2 nm hnm) (by decide)⟩
  rcases hat.2.2 with h | h | h | h
  ·omega
  ·omega
  ·omega
  ·omega
 cases b1
 case' true =>
  obtain ⟨d3, d4⟩ := d34 rfl
  simp only [go_sem, hA, dk0, dk2, d1, d3, d4, zi]
 case' false => simp only [go_sem, hA, dk0, dk2, d1, undef, zi]
 all_goals
  refine zhh 99 8005 2 11 107 (by simp only [go_sem]) rfl rfl ?_
  refine ze [2, 3, 4, 6, 9, 54, 55, 56] [0, 1, 2, 8005] [99] (fun y σ => ∃ q : Nat, q ≤ x.decls.length ∧ y = x.decls.length - q ∧ zl (zqF s k x.decls) q = 0 ∧ σ = zso x s k (zfb s k x.decls q) q) x.decls.length ⟨0, by omega, by omega, rfl, by (simp only [go_sem, zso]) <;> rfl⟩ ?_
  rintro y σ ⟨q, hq, rfl, hf, rfl⟩
  by_cases hlt : q < x.decls.length
  ·have k1 : decide ((q : Int) < (x.decls.length : Int)) = true := decide_eq_true (by omega)
   have hmem := List.getElem_mem hlt
   have hat := zcH x.decls q hlt
   have hks := zmV s k x.decls q hlt
   have hkl := ziB s k x.decls q
   by_cases hid : x.decls[q].id = s.id
   ·obtain ⟨p1, p2, p3, p4⟩ := pre _ hmem hid
    have hfe : zqF s k x.decls q = (zey x.decls[q] s k).2.2 := by unfold zqF; rw [hat, if_pos hid]
    have hke : zkx s k x.decls[q] = if (zey x.decls[q] s k).2.1 = true then [(zey x.decls[q] s k).1] else [] := if_pos hid
    have dd : decide (s.id = s.id) = true := decide_eq_true rfl
    have hcon := zpH x.decls[q] s k hk (Nat.le_trans (hb _ hmem) (by decide)) p1 p2 p3 p4
    refine goC 400 ?_
    simp only [go_sem, hA, zso, zi, k1, Int.toNat_natCast, zai x.decls q hlt, zdm, hid]
    refine ⟨⟨by omega, by omega⟩, ?_⟩
    refine zc 0 hcon rfl (by simp only [go_sem, avD, avQ, hid]) (by simp only [go_sem, hA]) ?_
    generalize zey x.decls[q] s k = r at hfe hke
    obtain ⟨e, ok, er⟩ := r
    simp only at hfe hke
    by_cases he : er = 0
    ·subst he
     cases ok with
     | true =>
      rw [hke, if_pos rfl] at hks
      refine zaa 96 _ _ _ _ ?_
      simp only [go_sem, hA, avD]
      refine znb 400 (by simp only [go_sem]) (ziw (rows2 := zaW [e]) (k := ⟨11, 107, (zfb s k x.decls q).length, none⟩) rfl rfl rfl rfl rfl (by kernel_rfl) zlo (by kernel_rfl) (by rw [show Tryz.prog.cellsOf 107 = 11 by kernel_rfl]; decide) (by kernel_rfl) (by rw [show Tryz.prog.bytesOf 107 = 136 by kernel_rfl]; decide) (zi _) (zgS _) (fun r hr => (zgS _ r hr).1) (by rw [zi, zi, List.length_singleton]; omega)) (by simp only [go_sem, hA]) ?_
      simp only [go_sem, hA]
      exact ⟨by unfold zf; omega, x.decls.length - (q + 1), by omega, q + 1, by omega, rfl, zr hf hfe, by rw [hks, ziP, List.length_append]; rfl⟩
     | false =>
      rw [hke, if_neg (by simp), List.append_nil] at hks
      refine zaa 400 _ _ _ _ ?_
      simp only [go_sem, hA, avD]
      exact ⟨by unfold zf; omega, x.decls.length - (q + 1), by omega, q + 1, by omega, rfl, zr hf hfe, by rw [hks]; rfl⟩
    ·have de : decide (¬ er = 0) = true := decide_eq_true he
     rw [zC hf hlt (by rw [hfe]; exact he), hfe, if_pos he] at hr0
     refine zaa 400 _ _ _ _ ?_
     simp only [go_sem, hA, avD, de, hr0, Tryz.results43]
     rfl
   ·have hfe : zqF s k x.decls q = 0 := by unfold zqF; rw [hat, if_neg hid]
    have hke : zkx s k x.decls[q] = [x.decls[q]] := if_neg hid
    rw [hke] at hks
    have dd : decide (x.decls[q].id = s.id) = false := decide_eq_false hid
    refine goC 81 ?_
    simp only [go_sem, hA, zso, zi, k1, Int.toNat_natCast, zai x.decls q hlt, zdm, dd]
    refine ⟨⟨by omega, by omega⟩, ?_⟩
    refine znb 400 (by simp only [go_sem]) (ziw (rows2 := zaW [x.decls[q]]) (k := ⟨11, 107, (zfb s k x.decls q).length, none⟩) rfl rfl rfl rfl rfl (by kernel_rfl) zlo (by kernel_rfl) (by rw [show Tryz.prog.cellsOf 107 = 11 by kernel_rfl]; decide) (by kernel_rfl) (by rw [show Tryz.prog.bytesOf 107 = 136 by kernel_rfl]; decide) (zi _) (zgS _) (fun r hr => (zgS _ r hr).1) (by rw [zi, zi, List.length_singleton]; omega)) (by simp only [go_sem, hA]) ?_
    simp only [go_sem, hA]
    exact ⟨by unfold zf; omega, x.decls.length - (q + 1), by omega, q + 1, by omega, rfl, zr hf hfe, by rw [hks, ziP, List.length_append]; rfl⟩
  ·have k1 : decide ((q : Int) < (x.decls.length : Int)) = false := decide_eq_false (by omega)
   obtain rfl : q = x.decls.length := by omega
   rw [if_neg (by simp [hf])] at hr0
   refine goC 400 ?_
   simp only [go_sem, hA, zso, k1, hr0, Tryz.results43]
end
section
open Go Go.RowKit
def zbs (x : Mo) : List Sq := if zae x = 0 then zhq x else []
def zaG (m : Mg) : List Sq := m.ms.flatMap zbs ++ m.ts.map fun x => ⟨x.path, 5, 0, 0⟩
theorem zgT (x : Mo) : zdz x = zaq (zbs x) := by
 unfold zdz zbs
 split
 ·exact zsX x
 ·rfl
theorem zAh (l : List Mo) : l.flatMap zdz = zaq (l.flatMap zbs) := by
 induction l with
 | nil => rfl
 | cons x l ih => rw [List.flatMap_cons, List.flatMap_cons, zgT, ih]; simp [zaq]
theorem zoU (m : Mg) : zks m = zaq (zaG m) := by
 unfold zks zcB zdw zaG
 rw [List.take_length, List.take_length, zAh]
 simp [zaq, zhP, Function.comp_def]
theorem zjM (x : Mo) : zK 4 (zdz x) := by rw [zgT]; exact zpi _
theorem zkc (x : Mo) (hb : ∀ d ∈ x.decls, confE d.body ≤ 400) : ∀ n, (zD x n).1.length ≤ n * 403
 | 0 => by simp [zD]
 | n + 1 => by
  have ih := zkc x hb n
  by_cases hn : n < x.decls.length
  ·have e : zD x (n + 1) = zbI x.label (zD x n) x.decls[n] := by
    unfold zD
    rw [List.take_succ_eq_append_getElem hn, List.foldl_append]; rfl
   have h1 := hb _ (List.getElem_mem hn)
   have hp : ∀ (b : Bool) (q : Sq) (l : List Sq), (zbY b q l).length ≤ l.length + 1 := fun b q l => by cases b <;> simp [zbY]
   have h3 := hp (decide (x.decls[n].names.length = 1) && zbN (zD x n).2 (zhK x.decls[n])) ⟨x.label, 4, x.decls[n].id, 0⟩ (zbY x.decls[n].doubt ⟨x.label, 3, x.decls[n].id, 0⟩ (zdE x.label x.decls[n].id (confE x.decls[n].body) (zbY (decide (x.decls[n].names.length = 3)) ⟨x.label, 1, x.decls[n].id, 0⟩ (zD x n).1)))
   have h4 := hp x.decls[n].doubt ⟨x.label, 3, x.decls[n].id, 0⟩ (zdE x.label x.decls[n].id (confE x.decls[n].body) (zbY (decide (x.decls[n].names.length = 3)) ⟨x.label, 1, x.decls[n].id, 0⟩ (zD x n).1))
   have h5 := hp (decide (x.decls[n].names.length = 3)) ⟨x.label, 1, x.decls[n].id, 0⟩ (zD x n).1
   have h6 : (zdE x.label x.decls[n].id (confE x.decls[n].body) (zbY (decide (x.decls[n].names.length = 3)) ⟨x.label, 1, x.decls[n].id, 0⟩ (zD x n).1)).length = (zbY (decide (x.decls[n].names.length = 3)) ⟨x.label, 1, x.decls[n].id, 0⟩ (zD x n).1).length + confE x.decls[n].body := by simp [zdE]
   rw [e]
   unfold zbI
   simp only
   generalize zbY (decide (x.decls[n].names.length = 3)) _ _ = l1 at h3 h4 h5 h6 ⊢
   generalize zdE _ _ _ l1 = l2 at h3 h4 h6 ⊢
   generalize zbY x.decls[n].doubt _ l2 = l3 at h3 h4 ⊢
   generalize zbY _ _ l3 = l4 at h3 ⊢
   generalize confE x.decls[n].body = c at h1 h6
   rw [Nat.succ_mul]
   generalize n * 403 = m at ih ⊢
   generalize (zD x n).1.length = k0 at ih h5
   clear hp e hb hn
   omega
  ·have e : zD x (n + 1) = zD x n := by
    unfold zD
    rw [List.take_of_length_le (by omega), List.take_of_length_le (by omega)]
   rw [e]; exact Nat.le_trans ih (Nat.mul_le_mul_right _ (Nat.le_succ n))
theorem zjL {x : Mo} (h : zae x = 0) : (zhq x).length ≤ 40300 := by
 have h1 := zkc x (fun d hd => Nat.le_trans (zet d.body) (zpo (znz (zvC h hd)).2.2.2.2.1).1) x.decls.length
 have h2 := Nat.mul_le_mul_right 403 (zhR h).2.1
 unfold zhq
 exact Nat.le_trans h1 h2
theorem zyr (x : Mo) : (zdz x).length ≤ 40300 := by
 rw [zgT, zB]
 unfold zbs
 split
 ·exact zjL (by assumption)
 ·simp
theorem zju (m : Mg) (hl : m.ms.length ≤ 1048576) (q : Nat) : (zdw m q).length ≤ 1099500000000 := by
 have key : ∀ l : List Mo, (l.flatMap zdz).length ≤ l.length * 40300 := by
  intro l
  induction l with
  | nil => simp
  | cons x l ih =>
   have := zyr x
   rw [List.flatMap_cons, List.length_append, List.length_cons, Nat.succ_mul]
   omega
 have h1 := key (m.ms.take q)
 have h2 : (m.ms.take q).length ≤ 1048576 := by rw [List.length_take]; omega
 have h3 := Nat.mul_le_mul_right 40300 h2
 unfold zdw
 omega
end
section
open Go Go.RowKit
variable {P : Program} {A : Base P} {σ : St} {g : Gh} {a : Act} {w : World}
theorem Ok.moreF (h : Ok A σ g a w) (G : Nat → Nat → Prop) (hF : ∀ b o, g.F b o → G b o)
  (hN : ∀ b o, G b o → g.F b o ∨ (A.B ≤ b ∧ b < w.heap.size ∧ (∀ r k, σ.blk r = some k → b ≠ g.m r) ∧ ∀ r k, σ.tok r = some k → (g.tv r).ownBlock ≠ some b)) : Ok A σ { g with F := G } a w := by
 have e : Ext (fun _ => False) g σ.tk w { g with F := G } σ.tk w := ⟨hF, fun _ _ _ _ h => h, fun _ _ => rfl, fun r _ n' hn' => ⟨n', hn', Nat.le_refl _, fun _ => rfl⟩, fun _ _ _ _ h => h⟩
 refine ⟨h.below, h.hB, fun b o hf => hF _ _ (h.F0 b o hf), fun b o hf => ?_, fun b o hf => ?_, h.defers, h.size, fun t => (h.env t).mono e (fun _ _ => id), fun r b hr => ⟨(h.blk r b hr).1, (h.blk r b hr).2.mono e (fun _ _ => id) rfl⟩, fun r b hr o hf => ?_, h.inj, fun r k hr => ?_, fun r k x hr hx o hf => ?_, h.tokblk, h.toktok, h.fix, h.hist⟩
 ·rcases hN b o hf with h1 | h1
  ·exact h.Fn b o h1
  ·exact .inr h1.1
 ·rcases hN b o hf with h1 | h1
  ·exact h.Fb b o h1
  ·exact h1.2.1
 ·rcases hN _ o hf with h1 | h1
  ·exact h.Fblk r b hr o h1
  ·exact h1.2.2.1 r b hr rfl
 ·obtain ⟨xs, h1, h2, h3⟩ := h.tok r k hr
  exact ⟨xs, h1, h2, fun rows hx => ⟨(h3 rows hx).1, fun i hi j hj => by
   obtain ⟨u, h4, h5⟩ := (h3 rows hx).2 i hi j hj
   exact ⟨u, h4, h5.mono hF (fun _ _ _ _ h => h)⟩⟩⟩
 ·rcases hN _ o hf with h1 | h1
  ·exact h.Ftok r k x hr hx o h1
  ·exact absurd hx (h1.2.2.2 r k hr)
theorem zkg (hX : ∀ x, ¬ A.X x) (r q j : Nat) {ty e : TypeId} {cs : List AV} {st len ver : Nat} {rows : List (List D)} {c : Code} {K : Exit → St → Prop} (hb : σ.blk q = some (.cell ty cs)) (hj : cs[j]? = some (.stk r st ver 0 len)) (ht : σ.tok r = some ⟨st, e, ver, some rows⟩) (hl : len = rows.length)
  (h : zbi P A c ((σ.setTok r none).setBlk q (some (.cell ty (cs.set j (.d (.sl rows)))))) K) : zbi P A c σ K := by
 refine zpI (fun g a w hk => ?_) h
 subst hl
 obtain ⟨xs, hown, hlow, hrows⟩ := hk.tok r _ ht
 obtain ⟨hr1, hr2⟩ := hrows rows rfl
 have hsub : Ok A (σ.setTok r none) g a w := hk.sub (fun _ => .inr rfl) (fun _ => .inr rfl) fun q => by
  rw [St.tok_setTok]
  split
  ·exact .inl rfl
  ·exact .inr rfl
 have hlt : ∀ x, (g.tv r).ownBlock = some x → x < w.heap.size := fun x hx => (hk.tok r _ ht).lt hx
 let G : Nat → Nat → Prop := fun b o => g.F b o ∨ (g.tv r).ownBlock = some b
 have h1 := hsub.moreF G (fun _ _ h => .inl h) fun b o hG => by
  rcases hG with h1 | h1
  ·exact .inl h1
  ·refine .inr ⟨(hlow b h1).resolve_right fun h => hX _ h.1, hlt b h1, fun r' k' hr' => ?_, fun r' k' hr' => ?_⟩
   ·exact hk.tokblk r _ r' k' b ht hr' h1
   ·rw [St.tok_setTok] at hr'
    split at hr'
    ·cases hr'
    ·rename_i hne
     exact hk.toktok r _ r' k' b ht hr' hne h1
 obtain ⟨hB, arr, c1, c2, c3⟩ := h1.blk q _ hb
 obtain ⟨hjl, hje⟩ := List.getElem?_eq_some_iff.1 hj
 refine ⟨_, (h1.write (k' := .cell ty (cs.set j (.d (.sl rows)))) (w' := w) hb (fun _ _ => rfl) rfl (.of (Below.refl _ _)) ⟨arr, c1, by simpa using c2, fun i hi hi' => ?_⟩).1⟩
 have hi2 : i < cs.length := by simpa using hi
 rw [List.getElem_set]
 split
 ·rename_i e1; subst e1
  obtain ⟨_, arr0, d1, d2, d3⟩ := hk.blk q _ hb
  have harr : arr = arr0 := by
   have := c1.symm.trans d1
   simp only [Option.some.injEq, Obj.cells.injEq] at this
   simpa using this.1
  subst harr
  have h3 := d3 j hjl hi'
  rw [hje] at h3
  obtain ⟨p, cap, hv, hc, hp, hvv⟩ := h3.stk_eq
  obtain ⟨hcut, _⟩ := (hvv ver (by simp [St.tk, ht])).2 rfl
  rw [hv]
  rcases hown.2 with ⟨e1, e2⟩ | ⟨b, cp, cur, e1, _, _, h5, _⟩
  ·have e2' : rows.length = 0 := e2
   have : rows = [] := List.eq_nil_of_length_eq_zero e2'
   subst this
   exact .d (.nil _ _)
  ·have e1' : g.tv r = .slice (some ⟨b, 0, none⟩) rows.length cp := e1
   have hob : (g.tv r).ownBlock = some b := by rw [e1']; rfl
   rw [e1'] at hcut
   simp only [zfj, Option.map_some, Addr.add_lit, Nat.zero_mul, Nat.add_zero, Nat.sub_zero] at hcut
   injection hcut with h7 h8 h9
   subst h7 h9
   refine .d (.mk (st := st) hc hr1 fun i hi j hj => ?_)
   obtain ⟨u, hu, hrd⟩ := hr2 i hi j hj
   have hcell := hown.cells (g := b) hob (i * st + j) u hu
   rw [Addr.add_lit, Nat.zero_add] at hcell
   exact ⟨.inr hob, u, by rw [Nat.zero_add]; exact hcell, hrd.mono (fun _ _ h => .inl h) (fun _ _ _ _ h => h)⟩
 ·exact c3 i hi2 hi'
theorem zwv (n : Nat) {all : List Oper} {o : Oper} {rest : List Oper} {i base : Nat} {s : List Itm} {Q : Exit → St → Prop} {t e u : TypeId} {p q : Operand} {rows : List (List D)} (hg : zcF A.N all σ o = some true) (ho : o.op = .binOp .eql t p q u) (ht : P.underlying t = some (.slice e)) (hp : σ.eval p = .d (.sl rows)) (hq : σ.eval q = .d (.raw (.slice none 0 0))) (hd : zar A.N o = true)
  (h : ∀ b : Bool, (b = true → rows = []) → go P A n (.ops all rest (i + 1) base) s (σ.put o.dst (.d (.raw (.bool b)))) Q) : zcn P A (.ops all (o :: rest) i base) s σ Q := by
 refine fun g a w hk => ?_
 have hpe := hk.eval p
 have hqe := hk.eval q
 rw [hp] at hpe
 rw [hq] at hqe
 obtain ⟨ad, cap, hv, hc⟩ := hpe.sl.slice
 have hr : (execOp a.eval o).run P w = .ok (.value (.bool ad.isNone)) w := by
  simp only [execOp, ho, hv, hqe.raw_eq]
  cases ad with
  | none =>
   have hg : (eqGuard .eql t p q (.slice none rows.length cap) (.slice none 0 0)).run P w = .ok () w := rfl
   have := Lib.run_eql_slice_nil_nil (P := P) w (t := t) (e := e) rows.length cap ht
   simp only [Sem.run_bind, hg, this, Result.andThen_ok, Sem.run_pure, Option.isNone]
  | some ad =>
   have hg : (eqGuard .eql t p q (.slice (some ad) rows.length cap) (.slice none 0 0)).run P w = .ok () w := rfl
   have := Lib.run_eql_slice_some_nil (P := P) w (t := t) (e := e) ad rows.length cap ht
   simp only [Sem.run_bind, hg, this, Result.andThen_ok, Sem.run_pure, Option.isNone]
 have hb : ad.isNone = true → rows = [] := fun hn => by
  have hpe' := hpe.sl
  rw [hv] at hpe'
  generalize hrw : D.sl rows = x at hpe'
  generalize hvw : Value.slice ad rows.length cap = y at hpe'
  cases hpe' with
  | raw v => cases hrw
  | nil p cap => injection hrw
  | rows st rows' b off cap' val hcap hpos =>
   injection hvw with h1
   rw [h1] at hn
   cases hn
 have hw := zgQ hk hg
 show wpListIn A.fe 0 P all.toArray _ (o :: rest) a w
 unfold wpListIn
 rw [hw]
 exact zjf hr (fun _ _ h => by cases h) (zaa n _ _ _ _ (h ad.isNone hb) g _ w (hk.put o.dst (zcd hd) (.d (.raw _))))
def zyF (P : Program) (f : FuncId) (args : List AV) (st : Nat) (ty : TypeId) (rows : List (List D)) : Prop :=
 zcS P f ∧ (∀ i (h : i < rows.length), rows[i].length = st) ∧ ∀ (F : Nat → Nat → Prop) (w : World) (vs : List Value), (∀ b o, F b o → b < w.heap.size) → Glob P w → args.length = vs.length → (∀ i (hi : i < args.length) (hv : i < vs.length), zco w F args[i] vs[i]) →
  Calls P f vs.toArray w fun e w' => ∃ v xs, e = .returned v ∧ w'.ownsRow w.heap.size ty st v rows.length xs ∧ (∀ i (hi : i < rows.length) j (hj : j < rows[i].length), ∃ u, xs[i * st + j]? = some u ∧ Reads w' (fun b o => F b o ∨ (w.heap.size ≤ b ∧ b < w'.heap.size ∧ v.ownBlock ≠ some b)) rows[i][j] u) ∧ Below w.heap.size w w'
def zEB (rs : List ResultVar) (st : Nat) (ty : TypeId) (rows : List (List D)) : Exit → St → Prop
 | .normal, σ | .ret, σ => ∃ t, rs = [.tmp t] ∧ ((∃ r ver, σ.get t = .stk r st ver 0 rows.length ∧ σ.tok r = some ⟨st, ty, ver, some rows⟩) ∨ (σ.get t = .d (.raw (.slice none 0 0)) ∧ rows = []))
 | _, _ => False
theorem zyQ {N : Nat} {F : Nat → Nat → Prop} {w : World} {args : List AV} {vs : List Value} (hF : ∀ b o, F b o → b < w.heap.size) (hG : Glob P w) (hl : args.length = vs.length) (hv : ∀ i (hi : i < args.length) (hv : i < vs.length), zco w F args[i] vs[i]) (hargs : zz args = true) (hle : args.length ≤ N) :
  ∃ A : Base P, A.N = N ∧ A.B = w.heap.size ∧ A.w0 = w ∧ ((∀ t, A.kv t = undef) ∧ A.ds = []) ∧ A.F0 = F ∧ (∀ x, ¬ A.X x) ∧ A.fe = Fence.wide ∧ Ok A (St.enter args) (gh0 F) { tmps := vs.toArray ++ Array.replicate (N - vs.toArray.size) undef, defers := [] } w := by
 have hsz : vs.toArray.size = args.length := by simp [hl]
 have hk : Ok ⟨w.heap.size, w, F, N, fun _ => False, fun w' hb => hG.keep hb fun _ h => h.elim, hG.low, fun _ h => h.elim, fun _ => false, fun _ => 0, fun _ h => by simp at h, none, fun _ => none, fun _ => undef, (fun _ _ h => by cases h), [], fun _ => undef, fun _ _ => rfl⟩ (St.enter args) (gh0 F) { tmps := vs.toArray ++ Array.replicate (N - vs.toArray.size) undef, defers := [] } w := by
  refine ⟨.of (Below.refl _ _), Nat.le_refl _, fun _ _ h => h, fun _ _ h => .inl h, hF, rfl, by simp; omega, fun t => ?_, fun r b hr => by simp [St.enter, St.blk, zP] at hr, fun r b hr => by simp [St.enter, St.blk, zP] at hr, fun r b r' b' hr => by simp [St.enter, St.blk, zP] at hr, fun r b hr => by simp [St.enter, St.tok, zP] at hr, fun r b x hr => by simp [St.enter, St.tok, zP] at hr, fun r b r' b' x hr => by simp [St.enter, St.tok, zP] at hr, fun r b r' b' x hr => by simp [St.enter, St.tok, zP] at hr, fun r hr => by simp at hr, fun _ _ h => by cases h⟩
  have hget : (St.enter args).get t = (args[t]?).getD .dead := by
   unfold St.enter St.get
   rw [zdh]; simp
  rw [Base.val_of (fun _ => rfl) (by simp; omega), hget]
  by_cases ht : t < args.length
  ·have htv : t < vs.length := by omega
   have e1 : (vs.toArray ++ Array.replicate (N - vs.toArray.size) undef).getD t undef = vs[t] := by
    rw [Array.getD_eq_getD_getElem?, Array.getElem?_append_left (by simpa using htv)]
    simp [htv]
   rw [e1]
   simp only [List.getElem?_eq_getElem ht, Option.getD_some]
   exact (hv t ht htv).open (zS ht hargs) (fun _ _ h => h)
  ·simp only [List.getElem?_eq_none (Nat.le_of_not_lt ht), Option.getD_none]
   exact .dead _
 exact ⟨_, rfl, rfl, rfl, ⟨fun _ => rfl, rfl⟩, rfl, fun _ h => h, rfl, hk⟩
theorem zwC {f : FuncId} {fn : Func} {c : Code} {args : List AV} {st : Nat} {ty : TypeId} {rows : List (List D)} (hf : P.funcs[f]? = some fn) (hb : fn.body = some c) (hn : (fn.name == "runtime.NumGoroutine") = false) (hrow : ∀ i (h : i < rows.length), rows[i].length = st) (hargs : zz args = true) (hle : args.length ≤ fn.ntmps) (hN : fn.ntmps ≤ 1000000)
  (h : ∀ A : Base P, A.N = fn.ntmps → zbi P A c (St.enter args) (stk P A [] (zEB fn.results.toList st ty rows))) : zyF P f args st ty rows := by
 refine ⟨⟨fn, hf, hn, by rw [hb]; rfl⟩, hrow, fun F w vs hF hG hl hv => ?_⟩
 refine calls_of_wp hf hb ?_
 obtain ⟨A, hAN, hAB, hAw, hAF, hA0, hAX, hfe, hk⟩ := zyQ (P := P) (N := fn.ntmps) hF hG hl hv hargs hle
 have hwp := h A hAN (gh0 F) _ w hk
 rw [hfe] at hwp
 refine wp_mono (wpIn_wide.1 hwp) fun e a' w' hq => ?_
 obtain ⟨σ', g', h1, h2⟩ := hq
 have hret : (∃ t, fn.results.toList = [.tmp t] ∧ ((∃ r ver, σ'.get t = .stk r st ver 0 rows.length ∧ σ'.tok r = some ⟨st, ty, ver, some rows⟩) ∨ (σ'.get t = .d (.raw (.slice none 0 0)) ∧ rows = []))) → a'.defers = [] ∧ ∃ v, (results fn a'.tmps).run P w' = .ok v w' ∧ ∃ u xs, Ending.returned v = .returned u ∧ w'.ownsRow w.heap.size ty st u rows.length xs ∧ (∀ i (hi : i < rows.length) j (hj : j < rows[i].length), ∃ y, xs[i * st + j]? = some y ∧ Reads w' (fun b o => F b o ∨ (w.heap.size ≤ b ∧ b < w'.heap.size ∧ u.ownBlock ≠ some b)) rows[i][j] y) ∧ Below w.heap.size w w' := fun ⟨t, hrs, hor⟩ => by
  have hbel : Below w.heap.size w w' := by
   have h3 := h2.below
   rw [hAB, hAw] at h3
   exact ⟨h3.os, h3.tape, h3.output, h3.size, fun k hk => h3.block k hk (hAX k)⟩
  have hrun : (results fn a'.tmps).run P w' = .ok (a'.tmps.getD t undef) w' := by
   have : (fn.results.toList.mapM (m := Go.Sem) (zeB a'.tmps)).run P w' = .ok [a'.tmps.getD t undef] w' := by
    rw [hrs]; simp only [List.mapM_cons, List.mapM_nil, zeB, Sem.run_bind, Sem.run_pure, Result.andThen_ok]
   rw [zdb _ this]; rfl
  have hds : a'.defers = [] := by rw [h2.defers]; exact hAF.2
  refine ⟨hds, _, hrun, a'.tmps.getD t undef, ?_⟩
  have hent : Has g' σ'.tk w' (σ'.get t) (a'.tmps.getD t undef) := by
   by_cases ht : t < 1000000
   ·exact h2.tmp ht
   ·have hsz := h2.size
    have e0 : a'.tmps.getD t undef = undef := by
     rw [Array.getD_eq_getD_getElem?, Array.getElem?_eq_none (Nat.le_trans (show a'.tmps.size ≤ 1000000 by omega) (Nat.le_of_not_lt ht))]; rfl
    have h5 := h2.env t
    unfold Base.val at h5
    rw [if_neg fun h => ht (Nat.lt_of_lt_of_le h (by omega))] at h5
    rw [e0, ← hAF.1 t]; exact h5
  rcases hor with ⟨r, ver, hg, ht⟩ | ⟨hg, rfl⟩
  ·rw [hg] at hent
   obtain ⟨p, cap, hv, hc, hp, hvv⟩ := hent.stk_eq
   obtain ⟨hcut, _⟩ := (hvv ver (by simp [St.tk, ht])).2 rfl
   obtain ⟨xs, hown, hlow, hrows⟩ := h2.tok r _ ht
   obtain ⟨hr1, hr2⟩ := hrows rows rfl
   have hve : a'.tmps.getD t undef = g'.tv r := by
    rw [hv, hcut]
    rcases hown.2 with ⟨e1, e2⟩ | ⟨b, cp, cur, e1, _⟩
    ·have e2' : rows.length = 0 := e2
     rw [e1, e2']; rfl
    ·rw [e1]; simp [zfj, Addr.add_lit, Tok.n]
   rw [hve]
   have hown3 : w'.ownsRow w.heap.size ty st (g'.tv r) rows.length xs := ⟨hown.1, hown.2.imp id fun ⟨b, cap, cur, e, _, r⟩ => ⟨b, cap, cur, e, by
    rw [← hAB]
    exact (hlow b (by rw [e]; rfl)).resolve_right fun h => hAX _ h.1, r⟩⟩
   refine ⟨xs, rfl, hown3, fun i hi j hj => ?_, hbel⟩
   ·obtain ⟨u, h4, h5⟩ := hr2 i hi j hj
    refine ⟨u, h4, h5.mono (fun b o hf => ?_) (fun _ _ _ _ h => h)⟩
    rcases h2.Fn b o hf with h6 | h6
    ·exact .inl (by rw [← hA0]; exact h6)
    ·refine .inr ⟨by rw [← hAB]; exact h6, h2.Fb b o hf, fun e => ?_⟩
     have := (h2.Ftok r _ b ht e o hf).1
     cases this
  ·rw [hg] at hent
   rw [hent.raw_eq]
   exact ⟨[], rfl, World.ownsRow_nil _ _ _ _, fun i hi => by simp at hi, hbel⟩
 cases e with
 | normal => exact hret h1
 | ret => exact hret h1
 | exit | goto | panic | outgrown => exact h1.elim
theorem zmB {o : Oper} {f : FuncId} {c : Call} {p : Operand} {asL : List AV} {st me : Nat} {ty : TypeId} {rows : List (List D)} (ho : o.op = .call c) (hp : c.callee = .value p) (hf : σ.eval p = .fn f []) (ha : zX (c.args.toList.map σ.eval) = some asL) (hc : zyF P f asL st ty rows) (hm : σ.free A me) :
  zO P A o σ (σ.setTok me (some ⟨st, ty, 0, some rows⟩)) (.stk me st 0 0 rows.length) := by
 intro g a w hk K Q hK
 obtain ⟨hen, hrow, hcon⟩ := hc
 obtain ⟨hl, hg⟩ := zbo ha
 have hpe := hk.eval p
 rw [hf] at hpe
 obtain ⟨vs, hv, hvl, hvs⟩ := hpe.fn_eq
 obtain rfl : vs = [] := List.eq_nil_of_length_eq_zero hvl.symm
 have hr : (execOp a.eval o).run P w = .ok (.enter f (c.args.toList.map a.eval).toArray) w := by
  simp only [execOp, ho, resolve, hp, hv, Deferred.ofValue, Sem.run_bind, Sem.run_pure, Result.andThen_ok, invoke]
  rw [zaU hen]
  have he : #[] ++ c.args.map a.eval ++ [].toArray = (c.args.toList.map a.eval).toArray := by
   apply Array.ext'; simp
  rw [he]
 refine zcA hr ?_
 refine (hcon g.F w (c.args.toList.map a.eval) hk.Fb (A.glob w hk.below) (by simp only [List.length_map] at hl ⊢; omega) (fun i hi hv => ?_)).mono ?_
 ·simp only [List.length_map] at hl
  have hi' : i < c.args.toList.length := by omega
  have h1 := hg i (by simpa using hi') hi
  rw [List.getElem_map] at h1
  rw [List.getElem_map]
  exact (hk.eval _).close h1
 ·rintro e w' ⟨v, xs, rfl, hown, hcells, hb⟩
  have hbk : ∀ x, v.ownBlock = some x → w.heap.size ≤ x ∧ x < w'.heap.size := fun x hx => hown.lt x hx
  obtain ⟨h1, e1⟩ := hk.grown hb (fun b o => g.F b o ∨ (w.heap.size ≤ b ∧ b < w'.heap.size ∧ v.ownBlock ≠ some b)) (fun _ _ h => .inl h) (fun b o h => h.imp id fun h => ⟨h.1, h.2.1⟩)
  have hBs := hk.hB
  have h2 := h1.addTok (r := me) (k := ⟨st, ty, 0, some rows⟩) (v := v) hm ⟨xs, ⟨hown.1, hown.2.imp id fun ⟨gb, cap, cur, h2, _, r⟩ => ⟨gb, cap, cur, h2, Nat.zero_le _, r⟩⟩, fun x hx => .inl (by have := (hbk x hx).1; omega), fun rows' hr' => by cases hr'; exact ⟨hrow, fun i hi j hj => hcells i hi j hj⟩⟩ (fun x hx o hf => by
   rcases hf with h3 | h3
   ·have := hk.Fb _ o h3; have := (hbk x hx).1; omega
   ·exact absurd hx h3.2.2) (fun r k x hr hx e => by
   have := (hk.blk r k hr).2.lt; have := (hbk x hx).1
   have e2 : x = g.m r := e
   omega) (fun r k x hr hx e => by
   have := (hk.tok r k hr).lt e; have := (hbk x hx).1; omega)
  have hvf : ∃ p cap, v = .slice p rows.length cap ∧ rows.length ≤ cap ∧ (0 < rows.length → ∃ b o, p = some ⟨b, o, none⟩) ∧ zfj v st 0 rows.length = v ∧ zpG v = rows.length := by
   rcases hown.2 with ⟨e, e0⟩ | ⟨b, cp, cur, e, _, _, h3, _⟩
   ·exact ⟨none, 0, by rw [e, e0], by omega, fun h => by omega, by rw [e, e0]; rfl, by rw [e, e0]; rfl⟩
   ·exact ⟨_, cp, e, h3, fun _ => ⟨b, 0, rfl⟩, by rw [e]; simp [zfj, Addr.add_lit], by rw [e]; rfl⟩
  obtain ⟨p', cap', rfl, h3, h4, h5, h6⟩ := hvf
  refine hK _ _ w' h2 (.stk me st 0 0 _ _ _ h3 h4 fun n' hn' => ?_)
  simp only [St.tk, St.tok_setTok, if_pos, Option.map_some, Option.some.injEq] at hn'
  subst hn'
  refine ⟨Nat.le_refl _, fun _ => ?_⟩
  simp only [zn]
  exact ⟨h5.symm, by rw [h6]; omega⟩
theorem zCv (n : Nat) {all : List Oper} {f : FuncId} {o : Oper} {rest : List Oper} {i base : Nat} {s : List Itm} {Q : Exit → St → Prop} {c : Call} {p : Operand} {ys : List AV} {st : Nat} {ty : TypeId} {rows : List (List D)} (hc : zyF P f ys st ty rows) (ho : o.op = .call c) (hp : c.callee = .value p) (hf : σ.eval p = .fn f []) (ha : zX (c.args.toList.map σ.eval) = some ys) (hd : zar A.N o = true) (hfr : σ.ment (base + i) = false)
  (hr : go P A n (.ops all rest (i + 1) base) s ((σ.setTok (base + i) (some ⟨st, ty, 0, some rows⟩)).put o.dst (.stk (base + i) st 0 0 rows.length)) Q) : zcn P A (.exe (some f) all o rest i base) s σ Q := zcT (zmB ho hp hf ha hc (St.free_of hfr)) hd (zaa n _ _ _ _ hr)
theorem zsd {o : Oper} {f : FuncId} {c : Call} {p : Operand} {asL : List AV} {st me : Nat} {ty : TypeId} {rows : List (List D)} (ho : o.op = .call c) (hp : c.callee = .value p) (hf : σ.eval p = .fn f []) (ha : c.args.toList.map σ.eval = asL) (hcl : zz asL = true) (hc : ztm P f asL st ty rows) (hm : σ.free A me) :
  zO P A o σ (σ.setTok me (some ⟨st, ty, rows.length, none⟩)) (.grow me rows) := by
 intro g a w hk K Q hK
 obtain ⟨hen, hrow, hcon⟩ := hc
 have hl : (c.args.toList.map σ.eval).length = asL.length := by rw [ha]
 have hpe := hk.eval p
 rw [hf] at hpe
 obtain ⟨vs, hv, hvl, hvs⟩ := hpe.fn_eq
 obtain rfl : vs = [] := List.eq_nil_of_length_eq_zero hvl.symm
 have hr : (execOp a.eval o).run P w = .ok (.enter f (c.args.toList.map a.eval).toArray) w := by
  simp only [execOp, ho, resolve, hp, hv, Deferred.ofValue, Sem.run_bind, Sem.run_pure, Result.andThen_ok, invoke]
  rw [zaU hen]
  have he : #[] ++ c.args.map a.eval ++ [].toArray = (c.args.toList.map a.eval).toArray := by
   apply Array.ext'; simp
  rw [he]
 refine zcA hr ?_
 refine (hcon g.F w (c.args.toList.map a.eval) hk.Fb (A.glob w hk.below) (by simp only [List.length_map] at hl ⊢; omega) (fun i hi hv => ?_)).mono ?_
 ·simp only [List.length_map] at hl
  have hi' : i < c.args.toList.length := by omega
  have he : asL[i] = σ.eval c.args.toList[i] := by subst ha; rw [List.getElem_map]
  rw [List.getElem_map]
  have hh := hk.eval c.args.toList[i]
  rw [← he] at hh
  exact hh.shut (zS hi hcl) fun _ _ h => h
 ·rintro e w' ⟨v, xs, rfl, hown, hcells, hb⟩
  have hbk : ∀ x, v.ownBlock = some x → w.heap.size ≤ x ∧ x < w'.heap.size := fun x hx => hown.lt x hx
  obtain ⟨h1, e1⟩ := hk.grown hb (fun b o => g.F b o ∨ (v.ownBlock = some b ∧ o < rows.length * st)) (fun _ _ h => .inl h) (fun b o h => h.imp id fun h => hbk b h.1)
  have hBs := hk.hB
  have hown' : ∃ xs, w'.ownsRow A.B ty st v rows.length xs := ⟨xs, hown.1, hown.2.imp id fun ⟨gb, cap, cur, h2, h3, r⟩ => ⟨gb, cap, cur, h2, by omega, r⟩⟩
  have h2 := h1.addTok (r := me) (k := ⟨st, ty, rows.length, none⟩) (v := v) hm (.of_own rfl hown') (fun x hx o hf => by
   rcases hf with h3 | h3
   ·have := hk.Fb _ o h3; have := (hbk x hx).1; omega
   ·exact ⟨rfl, h3.2⟩) (fun r k x hr hx e => by
   have := (hk.blk r k hr).2.lt; have := (hbk x hx).1
   have e2 : x = g.m r := e
   omega) (fun r k x hr hx e => by
   have := (hk.tok r k hr).lt e; have := (hbk x hx).1; omega)
  refine hK _ v w' h2 (.grow me rows v ?_ fun n' hn' => ?_)
  ·rcases hown.2 with ⟨h3, h4⟩ | ⟨gb, cap, cur, h3, _, _, h5, _⟩
   ·have : rows = [] := List.eq_nil_of_length_eq_zero h4
    subst this
    rw [h3]; exact .nil _ _
   ·have hvb : v.ownBlock = some gb := by rw [h3]; rfl
    have hrd : ∀ G : Nat → Nat → Prop, (∀ b o, (g.F b o ∨ (v.ownBlock = some b ∧ o < rows.length * st)) → G b o) → Reads w' G (.sl rows) (.slice (some ⟨gb, 0, none⟩) rows.length cap) := fun G hG => Reads.mk (st := st) h5 hrow fun i hi j hj => by
     obtain ⟨u, hu, hrd⟩ := hcells i hi j hj
     have hlt : i * st + j < rows.length * st := by
      have := Nat.mul_le_mul_right st (show i + 1 ≤ rows.length by omega)
      rw [Nat.add_mul] at this
      have := hrow i hi
      omega
     have hcell := hown.cells (g := gb) hvb (i * st + j) u hu
     rw [Addr.add_lit, Nat.zero_add] at hcell
     exact ⟨hG _ _ (.inr ⟨hvb, by rw [Nat.zero_add]; exact hlt⟩), u, by rw [Nat.zero_add]; exact hcell, hrd.mono (fun b o h => hG b o (.inl h)) (fun _ _ _ _ h => h)⟩
    have := hrd _ fun _ _ h => h
    rw [← h3] at this
    exact this
  ·simp only [St.tk, St.tok_setTok, if_pos, Option.map_some, Option.some.injEq] at hn'
   subst hn'
   exact ⟨Nat.le_refl _, fun _ => by simp only [zn]⟩
theorem zsE (n : Nat) {all : List Oper} {f : FuncId} {o : Oper} {rest : List Oper} {i base : Nat} {s : List Itm} {Q : Exit → St → Prop} {c : Call} {p : Operand} {ys : List AV} {st : Nat} {ty : TypeId} {rows : List (List D)} (hc : ztm P f ys st ty rows) (ho : o.op = .call c) (hp : c.callee = .value p) (hf : σ.eval p = .fn f []) (ha : c.args.toList.map σ.eval = ys) (hcl : zz ys = true) (hd : zar A.N o = true) (hfr : σ.ment (base + i) = false)
  (hr : go P A n (.ops all rest (i + 1) base) s ((σ.setTok (base + i) (some ⟨st, ty, rows.length, none⟩)).put o.dst (.grow (base + i) rows)) Q) : zcn P A (.exe (some f) all o rest i base) s σ Q := zcT (zsd ho hp hf ha hcl hc (St.free_of hfr)) hd (zaa n _ _ _ _ hr)
theorem znA {σ σ' : St} {o : Oper} {c : Call} (ho : o.op = .call c) (h : ∀ p ∈ o.op.operands.toList, σ'.eval p = σ.eval p) : (∀ p ∈ c.args.toList, σ'.eval p = σ.eval p) ∧ ∀ p, c.callee = .value p → σ'.eval p = σ.eval p :=
 ⟨fun p hpp => h p (by
  rw [ho]
  simp only [Op.operands, Call.operands, Array.toList_append, List.mem_append]
  exact .inr hpp), fun p hp1 => h p (by rw [ho]; simp [Op.operands, Call.operands, hp1])⟩
theorem zAa (n : Nat) {all : List Oper} {f : FuncId} {o : Oper} {rest : List Oper} {i base : Nat} {acc : List RI} {s : List Itm} {Q : Exit → St → Prop} {c : Call} {p : Operand} {ys : List AV} {st : Nat} {ty : TypeId} {rows : List (List D)} (hc : zyF P f ys st ty rows) (ho : o.op = .call c) (hp : c.callee = .value p) (hf : σ.eval p = .fn f []) (ha : zX (c.args.toList.map σ.eval) = some ys) (hd : zar A.N o = true) (hfr : σ.ment (base + i) = false)
  (hr : go P A n (.dops all rest (i + 1) base (acc ++ [zhE σ o (.stk (base + i) st 0 0 rows.length) (.tok (base + i) ⟨st, ty, 0, some rows⟩)])) s ((σ.setTok (base + i) (some ⟨st, ty, 0, some rows⟩)).put o.dst (.stk (base + i) st 0 0 rows.length)) Q) : zcn P A (.dexe (some f) all o rest i base acc) s σ Q := fun hg hP =>
 zdJ hg (.inr (.inr (.inr (.inr ⟨fun _ => hfr, fun A' σ' he _ hfree => by
  obtain ⟨e1, e2⟩ := znA ho he
  exact zmB ho hp ((e2 p hp).trans hf) (by rw [List.map_congr_left e1]; exact ha) hc (hfree rfl)⟩)))) hd (zaa n _ _ _ _ hr hP)
def zbB (rows : List (List D)) (i : Nat) (row : List D) : List (List D) := rows.take i ++ row :: rows.drop i
def zEm (P : Program) (f : FuncId) (st : Nat) (ty : TypeId) : Prop :=
 zcS P f ∧ ∀ (F : Nat → Nat → Prop) (w : World) (v x : Value) (rows : List (List D)) (row : List D) (i : Nat) (xs : List Value), (∀ b o, F b o → b < w.heap.size) → Glob P w → w.ownsRow 0 ty st v rows.length xs → (∀ b o, F b o → v.ownBlock ≠ some b) → (∀ i (h : i < rows.length), rows[i].length = st) →
  (∀ i (hi : i < rows.length) j (hj : j < rows[i].length), ∃ u, xs[i * st + j]? = some u ∧ Reads w F rows[i][j] u) → zK st rows → zK st [row] → Reads w F (.sl [row]) x → (∃ ys, w.ownsRow 0 ty st x 1 ys) → (∀ b, v.ownBlock = some b → x.ownBlock ≠ some b) → i ≤ rows.length → rows.length ≤ 1048576 →
  Calls P f #[v, .int .i64 i, x] w fun e w' => ∃ v' xs', e = .returned v' ∧ w'.ownsRow 0 ty st v' (zbB rows i row).length xs' ∧ w.grownBy w' v.ownBlock ∧ (v'.ownBlock = v.ownBlock ∨ v'.ownBlock = some w.heap.size ∨ v'.ownBlock = none) ∧
   ∀ q (hq : q < (zbB rows i row).length) j (hj : j < (zbB rows i row)[q].length), ∃ u, xs'[q * st + j]? = some u ∧ Reads w F (zbB rows i row)[q][j] u
theorem zsx {rows : List (List D)} {i st : Nat} {row : List D} (h : ∀ i (h : i < rows.length), rows[i].length = st) (hr : row.length = st) : ∀ q (h : q < (zbB rows i row).length), (zbB rows i row)[q].length = st := fun q hq => by
 have hm := List.getElem_mem hq
 generalize (zbB rows i row)[q] = y at hm
 unfold zbB at hm
 rcases List.mem_append.1 hm with h1 | h1
 ·obtain ⟨k, hk, rfl⟩ := List.mem_iff_getElem.1 (List.mem_of_mem_take h1)
  exact h k hk
 ·rcases List.mem_cons.1 h1 with rfl | h1
  ·exact hr
  ·obtain ⟨k, hk, rfl⟩ := List.mem_iff_getElem.1 (List.mem_of_mem_drop h1)
   exact h k hk
theorem zgi (rows : List (List D)) {i : Nat} (row : List D) (h : i ≤ rows.length) : (zbB rows i row).length = rows.length + 1 := by simp [zbB]; omega
theorem zzx {o : Oper} {f : FuncId} {c : Call} {p a1 a2 a3 : Operand} {r st ver k : Nat} {ty : TypeId} {rows : List (List D)} {row : List D} (hc : zEm P f st ty) (ho : o.op = .call c) (hp : c.callee = .value p) (hf : σ.eval p = .fn f []) (hargs : c.args.toList = [a1, a2, a3]) (h1 : σ.eval a1 = .stk r st ver 0 rows.length) (ht : σ.tok r = some ⟨st, ty, ver, some rows⟩) (h2 : σ.eval a2 = .d (.raw (.int .i64 k))) (hk : k ≤ rows.length) {r2 : Nat} (h3 : σ.eval a3 = .grow r2 [row]) (ht2 : σ.tok r2 = some ⟨st, ty, 1, none⟩) (hne2 : r ≠ r2) (hfit : zK st rows) (hfit2 : zK st [row]) (hb : rows.length ≤ 1048576) :
  zO P A o σ (σ.setTok r (some ⟨st, ty, ver + 1, some (zbB rows k row)⟩)) (.stk r st (ver + 1) 0 (zbB rows k row).length) := by
 intro g a w hk' K Q hK
 obtain ⟨hen, hcon⟩ := hc
 have hpe := hk'.eval p
 rw [hf] at hpe
 obtain ⟨vs, hv, hvl, hvs⟩ := hpe.fn_eq
 obtain rfl : vs = [] := List.eq_nil_of_length_eq_zero hvl.symm
 have h1e := hk'.eval a1
 rw [h1] at h1e
 have h2e := hk'.eval a2
 rw [h2] at h2e
 have h3e := hk'.eval a3
 rw [h3] at h3e
 obtain ⟨h3r, h3t⟩ := h3e.grow_eq
 have h3v : a.eval a3 = g.tv r2 := (h3t 1 (by simp [St.tk, ht2])).2 rfl
 obtain ⟨ys, hown2⟩ := (hk'.tok r2 _ ht2).own rfl
 obtain ⟨q, cap, hv1, hcap, _, hvv⟩ := h1e.stk_eq
 obtain ⟨hcut, _⟩ := (hvv ver (by simp [St.tk, ht])).2 rfl
 obtain ⟨xs, hown, hlow, hrows⟩ := hk'.tok r _ ht
 obtain ⟨hr1, hr2⟩ := hrows rows rfl
 have hve : a.eval a1 = g.tv r := by
  rw [hv1, hcut]
  rcases hown.2 with ⟨e1, e2⟩ | ⟨b, cp, cur, e1, _⟩
  ·have e2' : rows.length = 0 := e2
   rw [e1, e2']; rfl
  ·rw [e1]; simp [zfj, Addr.add_lit, Tok.n]
 have hr : (execOp a.eval o).run P w = .ok (.enter f #[g.tv r, .int .i64 k, a.eval a3]) w := by
  simp only [execOp, ho, resolve, hp, hv, Deferred.ofValue, Sem.run_bind, Sem.run_pure, Result.andThen_ok, invoke]
  rw [zaU hen]
  have he : #[] ++ c.args.map a.eval ++ [].toArray = #[g.tv r, .int .i64 k, a.eval a3] := by
   apply Array.ext'
   simp [hargs, hve, h2e.raw_eq]
  rw [he]
 refine zcA hr ((hcon g.F w (g.tv r) (a.eval a3) rows row k xs hk'.Fb (A.glob w hk'.below) hown (fun b o hf e => by have := (hk'.Ftok r _ b ht e o hf).1; cases this) hr1 hr2 hfit hfit2 h3r ⟨ys, by rw [h3v]; exact ⟨hown2.1, hown2.2.imp id fun ⟨b, cap, cur, e, _, r⟩ => ⟨b, cap, cur, e, Nat.zero_le _, r⟩⟩⟩ (fun b hb1 hb2 => hk'.toktok r _ r2 _ b ht ht2 hne2 hb1 (by rw [← h3v]; exact hb2)) hk hb).mono ?_)
 rintro e w' ⟨v', xs', rfl, hown', hgr, hat, hrd⟩
 have hlen := zgi rows row hk
 have h5 := hk'.restack (k' := ⟨st, ty, ver + 1, some (zbB rows k row)⟩) ht (by simp) (by simp) (.inl (Nat.lt_succ_self _)) hgr hown' (fun rows' hr' => by
  cases hr'
  exact ⟨zsx hr1 (hfit2 row (by simp)).1, hrd⟩) hat
 have hv2 : ∃ p' cap', v' = .slice p' (zbB rows k row).length cap' ∧ (zbB rows k row).length ≤ cap' ∧ (0 < (zbB rows k row).length → ∃ b o, p' = some ⟨b, o, none⟩) ∧ zfj v' st 0 (zbB rows k row).length = v' ∧ zpG v' = (zbB rows k row).length := by
  rcases hown'.2 with ⟨e, e0⟩ | ⟨b, cp, cur, e, _, _, h3, _⟩
  ·exact ⟨none, 0, by rw [e, e0], by omega, fun h => by omega, by rw [e, e0]; rfl, by rw [e, e0]; rfl⟩
  ·exact ⟨_, cp, e, h3, fun _ => ⟨b, 0, rfl⟩, by rw [e]; simp [zfj, Addr.add_lit], by rw [e]; rfl⟩
 obtain ⟨p', cap', rfl, h6, h7, h8, h9⟩ := hv2
 refine hK _ _ w' h5 (.stk r st _ 0 _ _ _ h6 h7 fun n' hn' => ?_)
 have e1 : (σ.setTok r (some ⟨st, ty, ver + 1, some (zbB rows k row)⟩)).tk r = some (ver + 1) := by simp [St.tk, St.tok_setTok]
 rw [e1] at hn'
 cases hn'
 refine ⟨Nat.le_refl _, fun _ => ?_⟩
 simp only [zn]
 exact ⟨h8.symm, by rw [h9]; omega⟩
theorem zDH (n : Nat) {all : List Oper} {f : FuncId} {o : Oper} {rest : List Oper} {i base : Nat} {acc : List RI} {s : List Itm} {Q : Exit → St → Prop} {c : Call} {p a1 a2 a3 : Operand} {r st ver k : Nat} {ty : TypeId} {rows : List (List D)} {row : List D} (hc : zEm P f st ty) (ho : o.op = .call c) (hp : c.callee = .value p) (hf : σ.eval p = .fn f []) (hargs : c.args.toList = [a1, a2, a3]) (h1 : σ.eval a1 = .stk r st ver 0 rows.length) (ht : σ.tok r = some ⟨st, ty, ver, some rows⟩) (h2 : σ.eval a2 = .d (.raw (.int .i64 k))) (hk : k ≤ rows.length) {r2 : Nat} (h3 : σ.eval a3 = .grow r2 [row]) (ht2 : σ.tok r2 = some ⟨st, ty, 1, none⟩) (hne2 : r ≠ r2) (hfit : zK st rows) (hfit2 : zK st [row]) (hb : rows.length ≤ 1048576) (hd : zar A.N o = true) (hne : r ≠ base + i)
  (hr : go P A n (.dops all rest (i + 1) base (acc ++ [zhE σ o (.stk r st (ver + 1) 0 (zbB rows k row).length) (.tok r ⟨st, ty, ver + 1, some (zbB rows k row)⟩)])) s ((σ.setTok r (some ⟨st, ty, ver + 1, some (zbB rows k row)⟩)).put o.dst (.stk r st (ver + 1) 0 (zbB rows k row).length)) Q) : zcn P A (.dexe (some f) all o rest i base acc) s σ Q := by
 have hh : zEl P σ (base + i) o (.stk r st (ver + 1) 0 (zbB rows k row).length) (.tok r ⟨st, ty, ver + 1, some (zbB rows k row)⟩) := ⟨fun e => absurd (Option.some.inj e) hne, fun A' σ' he hbt _ => by
  obtain ⟨e1, e2⟩ := znA ho he
  have m1 := e1 a1 (by rw [hargs]; simp)
  have m2 := e1 a2 (by rw [hargs]; simp)
  have m3 := e1 a3 (by rw [hargs]; simp)
  have hrel : a1 ∈ zU o.op := by rw [ho]; simp [zU, hp, hargs]
  have hrel3 : a3 ∈ zU o.op := by rw [ho]; simp [zU, hp, hargs]
  exact zzx hc ho hp ((e2 p hp).trans hf) hargs (m1.trans h1) (((hbt a1 hrel r (by rw [m1, h1]; simp [AV.ment])).2).trans ht) (m2.trans h2) hk (m3.trans h3) (((hbt a3 hrel3 r2 (by rw [m3, h3]; simp [AV.ment])).2).trans ht2) hne2 hfit hfit2 hb⟩
 exact fun hg hP => zdJ hg (.inr (.inr (.inr (.inr hh)))) hd (zaa n _ _ _ _ hr hP)
end
end Go.Proofs.YtpnjjmcimjlfkaaGreatDoor
