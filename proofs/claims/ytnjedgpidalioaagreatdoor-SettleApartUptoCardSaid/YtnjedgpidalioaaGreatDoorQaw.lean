/- Texts of this proof, part 23: what the proof uses of them. -/
import Derived.Test.YtnjedgpidalioaaGreatDoorQat
import Derived.Test.YtnjedgpidalioaaGreatDoorQav
import Derived.Test.YtnjedgpidalioaaGreatDoorQao
import Derived.Test.YtnjedgpidalioaaGreatDoorQau
namespace Go.Proofs.YtnjedgpidalioaaGreatDoor
section
open Go Go.RowKit
set_option maxHeartbeats 4000000 in
set_option maxRecDepth 100000 in
theorem growI_t_raw (n : Nat) (hn : n ≤ 1048576) (w : World) : Calls Tryz.prog 151 #[.slice none 0 0, .int .i64 n] w fun e w' => ∃ v, e = .returned v ∧ w'.ownsRow w.heap.size 127 3 v 0 [] ∧ Below w.heap.size w w' := by
 have hI : (Tryz.prog.info? 127).map (fun i => (i.zero, i.size, i.bytes)) = some (some (.agg #[.int .u64 0, .int .u64 0, .string ⟨#[]⟩]), 3, 32) := by kernel_rfl
 cases hq : Tryz.prog.info? 127 with
 | none => rw [hq] at hI; cases hI
 | some i0 =>
 rw [hq] at hI
 simp only [Option.map_some, Option.some.injEq, Prod.mk.injEq] at hI
 obtain ⟨hz0, hzs, hzb⟩ := hI
 by_cases h0 : n = 0
 ·subst h0
  go_enter Tryz.func151, Tryz.ntmps151
  go_wp2
  go_ret
  exact ⟨_, rfl, World.ownsRow_nil _ _ _ _, Below.refl _ _⟩
 have hw1 : IntKind.i64.wrap (n : Int) = (n : Int) := by rw [IntKind.wrap_i64]; omega
 have hge := grownCap_ge w n 0 127
 have hle := grownCap_le_maxLen w n 0 127 (by unfold maxLen; omega)
 obtain ⟨G, hG⟩ : ∃ G, G = grownCap w n 0 127 := ⟨_, rfl⟩
 obtain ⟨ROW, hROW⟩ : ∃ ROW : Array Value, ROW = ([] : List Value).toArray ++ Builtin.zeroCells (Value.cells (.agg #[.int .u64 0, .int .u64 0, .string ⟨#[]⟩])) n ++ Builtin.zeroCells (Value.cells (.agg #[.int .u64 0, .int .u64 0, .string ⟨#[]⟩])) (G - n) := ⟨_, rfl⟩
 have hrz : ∀ ty, (Builtin.append_ #[55, 3] ty #[.slice none 0 0, .int .i64 (n : Int)]).run Tryz.prog w = .ok (.slice (some ⟨w.heap.size, 0, none⟩) n G) (w.drew.alloc (.cells ROW 127)) := fun ty => by
  have h := Lib.run_append_grow_zeros w 55 3 ty 127 i0 _ .i64 .i64 Tryz.underlying55 Tryz.underlying3 hq hz0 none 0 0 [] (by simp [Builtin.firstCells]) n (by omega) (by omega) (by omega) (by omega) (by rw [hzb]; omega) (by rw [hzb]; exact growslice_fits (by omega) (by omega))
  rw [Nat.zero_add, ← hG, ← hROW] at h
  exact h
 rw [← hG] at hge hle
 have hRl : ROW.size = G * 3 := by
  rw [hROW]
  simp only [Array.size_append, List.size_toArray, size_zeroCells]
  simp [Value.cells]
  omega
 have hpos : (0 : Int) < (n : Int) := by omega
 clear hROW hG
 go_enter Tryz.func151, Tryz.ntmps151
 go_wp2_with (at_builtin; refine Lib.wpList_append_run _ rfl _ _ _ _ rfl _ _ rfl rfl _ _ (hrz _) ?_)
 go_ret
 exact ⟨_, rfl, ⟨by simp, .inr ⟨w.heap.size, G, ROW, rfl, Nat.le_refl _, heap_alloc_new w.drew _, Nat.zero_le _, hle, hRl, by simp⟩⟩, (Below.refl _ w).drew.alloc (Nat.le_refl _) _⟩
theorem growI_t (n : Nat) (hn : n ≤ 1048576) : ConT Tryz.prog 151 [.d (.raw (.slice none 0 0)), .d (.raw (.int .i64 n))] 3 127 [] := by
 refine ⟨⟨_, Tryz.func151, by decide +kernel, rfl⟩, fun i hi => by simp at hi, fun F w vs hF hG hl hv => ?_⟩
 match vs, hl with
 | [a, b], _ =>
  have h0 := hv 0 (by simp) (by simp)
  have h1 := hv 1 (by simp) (by simp)
  simp only [List.getElem_cons_zero, List.getElem_cons_succ] at h0 h1
  rw [h0.raw_eq, h1.raw_eq]
  refine (growI_t_raw n hn w).mono ?_
  rintro e w' ⟨v, rfl, h2, h3⟩
  exact ⟨v, [], rfl, h2, fun i hi => by simp at hi, h3⟩
theorem ccImap_at (ll : List (List (List D))) (q : Nat) (h : q < ll.length) : (ll.map fun l => [D.sl l]).getD q [] = [.sl ll[q]] := by simp [List.getD_eq_getElem?_getD, h]
theorem ccIflat_succ (ll : List (List (List D))) (q : Nat) (h : q < ll.length) : (ll.take (q + 1)).flatten = (ll.take q).flatten ++ ll[q] := by rw [List.take_succ_eq_append_getElem h, List.flatten_append]; simp only [List.flatten_cons, List.flatten_nil, List.append_nil]
theorem ccIflat_le (ll : List (List (List D))) (q : Nat) : (ll.take q).flatten.length ≤ ll.flatten.length := by
 conv => rhs; rw [← List.take_append_drop q ll]
 simp only [List.flatten_append, List.length_append]; omega
abbrev ccI1St (ll : List (List (List D))) (q : Nat) : St := ⟨[(0, .d (.sl (ll.map fun l => [D.sl l]))), (3, .d (.raw (.int .i64 (ll.take q).flatten.length))), (9, .d (.sl (ll.map fun l => [D.sl l]))), (10, .d (.raw (.int .i64 ll.length))), (11, .d (.raw (.int .i64 q)))], [], []⟩
abbrev ccI2St (ll : List (List (List D))) (q : Nat) : St := ⟨[(6, .grow 9001 (ll.take q).flatten), (25, .d (.sl (ll.map fun l => [D.sl l]))), (26, .d (.raw (.int .i64 ll.length))), (27, .d (.raw (.int .i64 q)))], [], [(9001, some ⟨3, 127, (ll.take q).flatten.length, none⟩)]⟩
set_option maxRecDepth 100000 in
set_option maxHeartbeats 8000000 in
theorem concatI_c (ll : List (List (List D))) (hll : ll.length ≤ 1048576) (hb : ll.flatten.length ≤ 1048576) (hf : ∀ l ∈ ll, rowsFit 3 l) : Con Tryz.prog 111 [.d (.sl (ll.map fun l => [D.sl l]))] (.d (.sl ll.flatten)) := by
 refine con_of Tryz.func111 rfl (by decide +kernel) rfl rfl (by simp [Tryz.ntmps111]) fun A hA => ?_
 rw [Tryz.ntmps111] at hA
 refine goC 400 ?_
 simp only [go_sem, hA, List.length_map]
 refine satC_loop [0, 3, 9, 10, 11] [] [] (fun y σ => ∃ q : Nat, q ≤ ll.length ∧ y = ll.length - q ∧ σ = ccI1St ll q) ll.length ⟨0, by omega, by omega, by (simp only [go_sem, ccI1St]) <;> rfl⟩ ?_
 rintro y σ ⟨q, hq, rfl, rfl⟩
 refine goC 400 ?_
 by_cases hlt : q < ll.length
 ·have k1 : decide ((q : Int) < (ll.length : Int)) = true := decide_eq_true (by omega)
  have h1 := ccIflat_le ll q
  have h2 := ccIflat_le ll (q + 1)
  have h3 := ccIflat_succ ll q hlt
  have h4 : (ll.take (q + 1)).flatten.length = (ll.take q).flatten.length + ll[q].length := by rw [h3, List.length_append]
  have hs : ((ll.take q).flatten.length : Int) + (ll[q].length : Int) = ((ll.take (q + 1)).flatten.length : Int) := by omega
  have k2 : decide (((ll.take (q + 1)).flatten.length : Int) < (0 : Int)) = false := decide_eq_false (by omega)
  simp only [go_sem, hA, ccI1St, List.length_map, k1, Int.toNat_natCast, ccImap_at ll q hlt, hs, k2]
  exact ⟨⟨by omega, by omega⟩, by unfold inI64; omega, by unfold inI64; omega, ll.length - (q + 1), by omega, q + 1, by omega, rfl, rfl⟩
 have k1 : decide ((q : Int) < (ll.length : Int)) = false := decide_eq_false (by omega)
 obtain rfl : q = ll.length := by omega
 simp only [go_sem, hA, ccI1St, k1, List.take_length]
 refine goCallT0 400 (growI_t ll.flatten.length hb) rfl rfl (by simp only [go_sem]) (by simp only [go_sem]) rfl (by simp only [go_sem, hA]) (by simp only [go_sem]) ?_
 simp only [go_sem, hA, List.length_map]
 refine satC_loop [6, 25, 26, 27] [] [9001] (fun y σ => ∃ q : Nat, q ≤ ll.length ∧ y = ll.length - q ∧ σ = ccI2St ll q) ll.length ⟨0, by omega, by omega, by (simp only [go_sem, ccI2St]) <;> rfl⟩ ?_
 clear hlt k1 hq
 rintro y σ ⟨q, hq, rfl, rfl⟩
 refine goC 400 ?_
 by_cases hlt : q < ll.length
 ·have k1 : decide ((q : Int) < (ll.length : Int)) = true := decide_eq_true (by omega)
  have h1 := ccIflat_le ll q
  have h2 := ccIflat_le ll (q + 1)
  have h3 := ccIflat_succ ll q hlt
  have h4 : (ll.take (q + 1)).flatten.length = (ll.take q).flatten.length + ll[q].length := by rw [h3, List.length_append]
  simp only [go_sem, hA, ccI2St, List.length_map, k1, Int.toNat_natCast, ccImap_at ll q hlt]
  exact ⟨⟨by omega, by omega⟩, ⟨hf _ (List.getElem_mem hlt), fun r hr => by
   obtain ⟨l, hl, hr⟩ := List.mem_flatten.1 hr
   exact (hf l (List.mem_of_mem_take hl) r hr).1, by omega⟩, by unfold inI64; omega, ll.length - (q + 1), by omega, q + 1, by omega, rfl, by rw [h3, List.length_append]; rfl⟩
 have k1 : decide ((q : Int) < (ll.length : Int)) = false := decide_eq_false (by omega)
 obtain rfl : q = ll.length := by omega
 simp only [go_sem, hA, ccI2St, k1, List.take_length, Tryz.results111]
end
section
open Go Go.RowKit
def eqBy : List UInt8 → List UInt8 → Bool
 | [], [] => true
 | x :: l, y :: m => Nat.beq x.toNat y.toNat && eqBy l m
 | _, _ => false
theorem eqBy_ok : ∀ {l m : List UInt8}, eqBy l m = true → l = m
 | [], [], _ => rfl
 | x :: l, y :: m, h => by
  simp only [eqBy, Bool.and_eq_true] at h
  rw [UInt8.toNat_inj.1 (Nat.eq_of_beq_eq_true h.1), eqBy_ok h.2]
 | [], _ :: _, h => by cases h
 | _ :: _, [], h => by cases h
def eqVa : Value → Value → Bool
 | .string a, .string b => eqBy a.data.toList b.data.toList
 | .int k a, .int l b => decide (k = l) && decide (a = b)
 | .bool a, .bool b => a == b
 | .slice none 0 0, .slice none 0 0 => true
 | _, _ => false
theorem eqVa_ok {a b : Value} (h : eqVa a b = true) : a = b := by
 unfold eqVa at h
 split at h
 ·rename_i a b
  have := eqBy_ok h
  obtain ⟨⟨a⟩⟩ := a
  obtain ⟨⟨b⟩⟩ := b
  simp only at this
  rw [this]
 ·simp only [Bool.and_eq_true, decide_eq_true_eq] at h
  rw [h.1, h.2]
 ·rw [beq_iff_eq] at h; rw [h]
 ·rfl
 ·cases h
mutual
def eqD : D → D → Bool
 | .raw a, .raw b => eqVa a b
 | .sl a, .sl b => eqDR a b
 | _, _ => false
def eqDL : List D → List D → Bool
 | [], [] => true
 | x :: l, y :: m => eqD x y && eqDL l m
 | _, _ => false
def eqDR : List (List D) → List (List D) → Bool
 | [], [] => true
 | x :: l, y :: m => eqDL x y && eqDR l m
 | _, _ => false
end
mutual
theorem eqD_ok : ∀ {x y : D}, eqD x y = true → x = y
 | .raw a, .raw b, h => by
  unfold eqD at h
  rw [eqVa_ok h]
 | .sl a, .sl b, h => by
  unfold eqD at h
  rw [eqDR_ok h]
 | .raw _, .sl _, h => by unfold eqD at h; cases h
 | .sl _, .raw _, h => by unfold eqD at h; cases h
theorem eqDL_ok : ∀ {x y : List D}, eqDL x y = true → x = y
 | [], [], _ => rfl
 | x :: l, y :: m, h => by
  unfold eqDL at h
  rw [Bool.and_eq_true] at h
  rw [eqD_ok h.1, eqDL_ok h.2]
 | [], _ :: _, h => by unfold eqDL at h; cases h
 | _ :: _, [], h => by unfold eqDL at h; cases h
theorem eqDR_ok : ∀ {x y : List (List D)}, eqDR x y = true → x = y
 | [], [], _ => rfl
 | x :: l, y :: m, h => by
  unfold eqDR at h
  rw [Bool.and_eq_true] at h
  rw [eqDL_ok h.1, eqDR_ok h.2]
 | [], _ :: _, h => by unfold eqDR at h; cases h
 | _ :: _, [], h => by unfold eqDR at h; cases h
end
mutual
def eqA : AV → AV → Bool
 | .d a, .d b => eqD a b
 | .agg a, .agg b => eqAL a b
 | .tup a, .tup b => eqAL a b
 | _, _ => false
def eqAL : List AV → List AV → Bool
 | [], [] => true
 | x :: l, y :: m => eqA x y && eqAL l m
 | _, _ => false
end
mutual
theorem eqA_ok : ∀ {x y : AV}, eqA x y = true → x = y := by
 intro x y h
 unfold eqA at h
 split at h
 ·rw [eqD_ok h]
 ·rw [eqAL_ok h]
 ·rw [eqAL_ok h]
 ·cases h
theorem eqAL_ok : ∀ {x y : List AV}, eqAL x y = true → x = y
 | [], [], _ => rfl
 | x :: l, y :: m, h => by
  unfold eqAL at h
  rw [Bool.and_eq_true] at h
  rw [eqA_ok h.1, eqAL_ok h.2]
 | [], _ :: _, h => by unfold eqAL at h; cases h
 | _ :: _, [], h => by unfold eqAL at h; cases h
end
def lookR : List (FuncId × List AV × AV) → FuncId → List AV → Option AV
 | [], _, _ => none
 | (g, zs, r) :: t, f, ys => if Nat.beq f g && eqAL ys zs then some r else lookR t f ys
theorem lookR_ok {P : Program} : ∀ {l : List (FuncId × List AV × AV)}, (∀ x ∈ l, Con P x.1 x.2.1 x.2.2) → ∀ {f : FuncId} {ys : List AV} {r : AV}, lookR l f ys = some r → Con P f ys r
 | [], _, _, _, _, h => by cases h
 | (g, zs, r') :: t, hl, f, ys, r, h => by
  unfold lookR at h
  split at h
  ·rename_i hc
   cases h
   rw [Bool.and_eq_true] at hc
   rw [Nat.eq_of_beq_eq_true hc.1, eqAL_ok hc.2]
   exact hl _ (List.mem_cons_self ..)
  ·exact lookR_ok (fun x hx => hl x (List.mem_cons_of_mem _ hx)) h
def putO : Nat → Nat → Option (List UInt8)
 | 0, _ => none
 | k + 1, n => if Nat.blt n 128 then some [n.toUInt8] else (putO k (n / 128)).map ((n % 128 + 128).toUInt8 :: ·)
theorem putO_ok : ∀ {k n : Nat} {l : List UInt8}, putO k n = some l → l = putL n
 | k + 1, n, l, h => by
  unfold putO at h
  split at h
  ·rename_i hc
   cases h
   rw [putL_lt (by simpa [Nat.blt_eq] using hc)]
  ·rename_i hc
   cases hr : putO k (n / 128) with
   | none => rw [hr] at h; cases h
   | some l' =>
    rw [hr] at h
    cases h
    rw [putL_ge (by simpa [Nat.blt_eq] using hc), putO_ok hr]
def flatO : List (List D) → Option (List (List (List D)))
 | [] => some []
 | [.sl l] :: r => (flatO r).map (l :: ·)
 | _ => none
theorem flatO_ok : ∀ {l : List (List D)} {ll : List (List (List D))}, flatO l = some ll → l = ll.map fun l => [D.sl l]
 | [], ll, h => by cases h; rfl
 | x :: r, ll, h => by
  unfold flatO at h
  split at h
  ·rename_i e; cases e
  ·rename_i l' r' e
   cases e
   cases hr : flatO r with
   | none => rw [hr] at h; cases h
   | some l'' =>
    rw [hr] at h
    cases h
    rw [flatO_ok hr]; rfl
  ·cases h
def tblK (f : FuncId) (ys : List AV) : Option AV :=
 if Nat.beq f 149 then (match ys with
  | [.d (.raw (.int .i64 (.ofNat n)))] => if Nat.ble n 1099511627776 then (putO 10 n).map fun l => .tup [.d (.raw (.string ⟨l.toArray⟩)), .d (.raw (.int .i64 0))] else none
  | _ => none)
 else if Nat.beq f 150 then (match ys with
  | [.d (.raw (.string s))] => if Nat.ble s.size 65536 then (putO 10 s.size).map fun l => .tup [.d (.raw (.string ⟨(l ++ s.data.toList).toArray⟩)), .d (.raw (.int .i64 0))] else none
  | _ => none)
 else if Nat.beq f 111 then (match ys with
  | [.d (.sl l)] => match flatO l with
   | some ll => if Nat.ble ll.length 1048576 && Nat.ble ll.flatten.length 1048576 && ll.all (fun l => l.all fun r => Nat.beq r.length 3 && r.all D.one) then some (.d (.sl ll.flatten)) else none
   | none => none
  | _ => none)
 else none
theorem tblK_ok : TblOk Tryz.prog tblK := by
 intro f ys r h
 unfold tblK at h
 split at h
 ·rename_i hf
  rw [Nat.eq_of_beq_eq_true hf]
  split at h
  ·rename_i n
   split at h
   ·rename_i hn
    cases hr : putO 10 n with
    | none => rw [hr] at h; cases h
    | some l =>
     rw [hr] at h
     cases h
     rw [putO_ok hr]
     exact putInt_c n (Nat.le_of_ble_eq_true hn)
   ·cases h
  ·cases h
 split at h
 ·rename_i hf
  rw [Nat.eq_of_beq_eq_true hf]
  split at h
  ·rename_i s
   split at h
   ·rename_i hn
    cases hr : putO 10 s.size with
    | none => rw [hr] at h; cases h
    | some l =>
     rw [hr] at h
     cases h
     rw [putO_ok hr]
     exact putText_c s (Nat.le_of_ble_eq_true hn)
   ·cases h
  ·cases h
 split at h
 ·rename_i hf
  rw [Nat.eq_of_beq_eq_true hf]
  split at h
  ·rename_i l
   split at h
   ·rename_i ll hl
    split at h
    ·rename_i hc
     cases h
     simp only [Bool.and_eq_true, List.all_eq_true] at hc
     obtain ⟨⟨h1, h2⟩, h3⟩ := hc
     rw [flatO_ok hl]
     refine concatI_c ll (Nat.le_of_ble_eq_true h1) (Nat.le_of_ble_eq_true h2) fun l hl r hr => ?_
     obtain ⟨h4, h5⟩ := h3 l hl r hr
     exact ⟨Nat.eq_of_beq_eq_true h4, h5⟩
    ·cases h
   ·cases h
  ·cases h
 ·cases h
def noteM : Mg := ⟨[], [], [⟨⟨#[110, 111, 116, 101, 115]⟩, true, true, true, ⟨#[49]⟩, ⟨#[50]⟩, ⟨#[51]⟩⟩]⟩
def noteX : Mg := ⟨[], [⟨⟨#[110, 111, 116, 101, 115]⟩, ⟨#[51]⟩⟩], []⟩
theorem noteM_good : noteM.Good := ⟨⟨by decide, by decide, (fun _ h => by cases h), (fun _ h => by cases h), (fun x h => by
 rw [List.mem_singleton.1 (show x ∈ [_] from h)]
 exact ⟨by decide, by decide, by decide, by decide⟩)⟩, by decide, (fun _ h => by cases h)⟩
theorem noteX_good : noteX.Good := ⟨⟨by decide, by decide, (fun _ h => by cases h), (fun x h => by
 rw [List.mem_singleton.1 (show x ∈ [_] from h)]
 exact ⟨by decide, by decide⟩), (fun _ h => by cases h)⟩, by decide, (fun _ h => by cases h)⟩
def rows37 : List (FuncId × List AV × AV) := [(9, [avG noteM], .d (.raw (.int .i64 (settX noteM)))), (9, [avG noteX], .d (.raw (.int .i64 (settX noteX)))), (11, [avG noteM, .d (.raw (.int .i64 0)), .d (.raw (.int .i64 2))], .tup [avG (chooseX noteM 0 2).1, .d (.raw (.int .i64 (chooseX noteM 0 2).2))])]
theorem rows37_ok : ∀ x ∈ rows37, Con Tryz.prog x.1 x.2.1 x.2.2 := by
 intro x hx
 simp only [rows37, List.mem_cons, List.not_mem_nil, or_false] at hx
 rcases hx with rfl | rfl | rfl
 ·exact settle_c _ noteM_good.fine
 ·exact settle_c _ noteX_good.fine
 ·exact choose_c _ noteM_good 0 2
def tbl37 (f : FuncId) (ys : List AV) : Option AV := match lookR rows37 f ys with
 | some r => some r
 | none => tblK f ys
theorem tbl37_ok : TblOk Tryz.prog tbl37 := by
 intro f ys r h
 unfold tbl37 at h
 split at h
 ·rename_i r' h1; cases h; exact lookR_ok rows37_ok h1
 ·exact tblK_ok _ _ _ h
end
section
open Go Go.RowKit
theorem awake37_c : Con Tryz.prog 7 [] (.d (.raw (.bool true))) :=
 con_run 20000 (by kernel_rfl) tbl37_ok spX_ok (shX_ok) (by kernel_rfl)
end
section
open Go Go.RowKit
set_option maxRecDepth 100000 in
set_option maxHeartbeats 16000000 in
theorem lawClean_c (m : Mg) (hb : ∀ x ∈ m.ms, ∀ d ∈ x.decls, nodesE d.body ≤ 1048576) (i s : Int) (hi : 0 ≤ i ∧ i ≤ 255) (hs : 0 ≤ s ∧ s ≤ 255) : Con Tryz.prog 3 [avG m, .d (.raw (.int .u8 i)), .d (.raw (.int .u8 s))] (.d (.raw (.bool true))) := by
 refine con_of Tryz.func3 rfl (by decide +kernel) rfl rfl (by simp [Tryz.ntmps3]) fun A hA => ?_
 rw [Tryz.ntmps3] at hA
 refine goC 400 ?_
 simp only [go_sem, hA, avG]
 refine goCall 400 (rGreatG_c m hb) rfl (by simp only [go_sem, avG]) (by simp only [go_sem, hA]) ?_
 cases h1 : greatG m with
 | true =>
  simp only [go_sem]
  refine goCall 400 awake37_c rfl rfl (by simp only [go_sem, hA]) ?_
  simp only [go_sem, hA, Tryz.results3]
 | false =>
 have hg := great_good h1
 simp only [go_sem, hA]
 refine goCall 400 (listV_c m hg) rfl (by simp only [go_sem, avG]) (by simp only [go_sem, hA]) ?_
 simp only [go_sem, hA]
 refine goCall 400 (settle_c m hg.fine) rfl (by simp only [go_sem, avG]) (by simp only [go_sem, hA]) ?_
 by_cases h0 : settX m = 0
 rotate_left
 ·have g0 : (decide ¬ settX m = 0) = true := by simp [h0]
  have hl : listV m = [] := if_neg h0
  have he : encQs [] = [] := rfl
  simp only [go_sem, hA, g0, hl, he]
  refine goCall 400 awake37_c rfl rfl (by simp only [go_sem, hA]) ?_
  simp only [go_sem, hA, Tryz.results3]
 have g0 : (decide ¬ settX m = 0) = false := by simp [h0]
 have hl : listV m = listQ m := if_pos h0
 simp only [go_sem, hA, g0, hl]
 refine goCall 400 (rClean_c' m hg.fine.ml fun x hx => ⟨hg.dl x hx, hg.fine.bd x hx⟩) rfl (by simp only [go_sem, avG]) (by simp only [go_sem, hA]) ?_
 rw [clean_list h0]
 by_cases h2 : ((listQ m).length : Int) = 0
 ·have k1 : decide (((listQ m).length : Int) = 0) = true := decide_eq_true h2
  simp only [go_sem, hA, encQs_length, k1]
  refine goCall 400 awake37_c rfl rfl (by simp only [go_sem, hA]) ?_
  simp only [go_sem, hA, Tryz.results3]
 have k1 : decide (((listQ m).length : Int) = 0) = false := decide_eq_false h2
 have w1 : IntKind.i64.wrap i = i := by rw [IntKind.wrap_i64]; omega
 have w2 : IntKind.i64.wrap s = s := by rw [IntKind.wrap_i64]; omega
 simp only [go_sem, hA, encQs_length, k1, w1, w2, mixedF]
 refine ⟨h2, by decide, ?_⟩
 refine goCallD 400 (choose_c m hg (i.tmod (listQ m).length) (s.tmod 3)) rfl (by simp only [go_sem, avG]) (by simp only [go_sem, hA]) ?_
 obtain ⟨x, hx⟩ : ∃ x, chooseX m (i.tmod (listQ m).length) (s.tmod 3) = x := ⟨_, rfl⟩
 have hgx := choose_good hg (i.tmod (listQ m).length) (s.tmod 3)
 rw [hx] at hgx
 by_cases hx0 : x.2 = 0
 ·have k2 : (decide ¬ x.2 = 0) = false := by simp [hx0]
  have hv : settX x.1 = 0 := by rw [← hx] at hx0 ⊢; exact choose_ok hx0
  have k3 : decide (settX x.1 = 0) = true := decide_eq_true hv
  simp only [go_sem, hA, hx, avG, k2]
  refine ⟨by show chk _ _ _ = true; kernel_rfl, ?_⟩
  refine goCall 400 (settle_c x.1 hgx.fine) rfl (by simp only [go_sem, avG]) (by simp only [go_sem, hA]) ?_
  simp only [go_sem, hA, k3]
  refine goCall 400 awake37_c rfl rfl (by simp only [go_sem, hA]) ?_
  simp only [go_sem, hA, Tryz.results3]
 ·have k2 : (decide ¬ x.2 = 0) = true := by simp [hx0]
  have hz : x.1 = zeroG := by rw [← hx] at hx0 ⊢; exact choose_bad hx0
  have hsame := rSameG_c zeroG zeroG (by decide) (by decide) (by decide) (fun _ h => by cases h)
  rw [(eqG_iff _ _).2 rfl] at hsame
  simp only [go_sem, hA, hx, avG, k2, hz]
  refine ⟨by show chk _ _ _ = true; kernel_rfl, ?_⟩
  refine goCall 400 hsame rfl (by rfl) (by simp only [go_sem, hA]) ?_
  simp only [go_sem, hA]
  refine goCall 400 awake37_c rfl rfl (by simp only [go_sem, hA]) ?_
  simp only [go_sem, hA, Tryz.results3]
end
section
open Go Go.RowKit
theorem cmpB_lt : ∀ a b : List UInt8, Lib.compareBytes a b < 0 ↔ a < b
 | [], [] => by simp [Lib.compareBytes]
 | [], _ :: _ => by simp [Lib.compareBytes]
 | _ :: _, [] => by simp [Lib.compareBytes]
 | x :: a, y :: b => by
  rw [Lib.compareBytes, List.cons_lt_cons_iff]
  split
  ·rename_i h; simp [h]
  ·rename_i h
   split
   ·rename_i h2
    have : x ≠ y := fun e => by subst e; exact h h2
    simp [h, this]
   ·rename_i h2
    have e : x = y := UInt8.le_antisymm (UInt8.not_lt.1 h2) (UInt8.not_lt.1 h)
    rw [cmpB_lt a b]
    simp [e, UInt8.lt_irrefl]
theorem cmpB_eq : ∀ a b : List UInt8, Lib.compareBytes a b = 0 ↔ a = b
 | [], [] => by simp [Lib.compareBytes]
 | [], _ :: _ => by simp [Lib.compareBytes]
 | _ :: _, [] => by simp [Lib.compareBytes]
 | x :: a, y :: b => by
  rw [Lib.compareBytes]
  split
  ·rename_i h
   have : x ≠ y := fun e => by subst e; exact UInt8.lt_irrefl _ h
   simp [this]
  ·rename_i h
   split
   ·rename_i h2
    have : x ≠ y := fun e => by subst e; exact h h2
    simp [this]
   ·rename_i h2
    have e : x = y := UInt8.le_antisymm (UInt8.not_lt.1 h2) (UInt8.not_lt.1 h)
    rw [cmpB_eq a b]
    simp [e]
theorem cmpS_lt (a b : ByteArray) : cmpS a b < 0 ↔ ltL a b := cmpB_lt _ _
theorem cmpS_eq (a b : ByteArray) : cmpS a b = 0 ↔ a = b := (cmpB_eq _ _).trans ⟨ba_inj, fun h => by rw [h]⟩
theorem leS_false {a b : ByteArray} (h : leS a b = false) : ltL b a := by
 unfold leS at h
 simp only [Bool.or_eq_false_iff, decide_eq_false_iff_not] at h
 refine ltL_or (fun h1 => ?_) h.2
 rw [(bytesLess_iff _ _).2 h1] at h
 exact absurd h.1 (by simp)
def Sk {α : Type} (f : α → ByteArray) (l : List α) : Prop := l.Pairwise fun x y => ltL (f x) (f y)
theorem sk_adj {α : Type} {f : α → ByteArray} {l : List α} (h : ∀ q (h : q + 1 < l.length), ltL (f l[q]) (f l[q + 1])) : Sk f l := by
 refine List.pairwise_iff_getElem.2 fun i j hi hj hij => ?_
 induction j with
 | zero => omega
 | succ j ih =>
  by_cases e : i = j
  ·subst e; exact h i hj
  ·exact ltL_trans (ih (by omega) (by omega)) (h j hj)
theorem sk_ext {α : Type} {f : α → ByteArray} : ∀ {l m : List α}, Sk f l → Sk f m → (∀ x, x ∈ l ↔ x ∈ m) → l = m
 | [], [], _, _, _ => rfl
 | [], y :: m, _, _, h => by have := (h y).2 (List.mem_cons_self ..); cases this
 | x :: l, [], _, _, h => by have := (h x).1 (List.mem_cons_self ..); cases this
 | x :: l, y :: m, hl, hm, h => by
  obtain ⟨h1, h2⟩ := List.pairwise_cons.1 hl
  obtain ⟨h3, h4⟩ := List.pairwise_cons.1 hm
  have e : x = y := by
   rcases List.mem_cons.1 ((h x).1 (List.mem_cons_self ..)) with e | hx
   ·exact e
   rcases List.mem_cons.1 ((h y).2 (List.mem_cons_self ..)) with e | hy
   ·exact e.symm
   exact absurd (ltL_trans (h1 y hy) (h3 x hx)) (ltL_irrefl _)
  subst e
  rw [sk_ext h2 h4 fun z => ?_]
  constructor
  ·intro hz
   rcases List.mem_cons.1 ((h z).1 (List.mem_cons_of_mem _ hz)) with e | hz'
   ·subst e; exact absurd (h1 z hz) (ltL_irrefl _)
   ·exact hz'
  ·intro hz
   rcases List.mem_cons.1 ((h z).2 (List.mem_cons_of_mem _ hz)) with e | hz'
   ·subst e; exact absurd (h3 z hz) (ltL_irrefl _)
   ·exact hz'
theorem sk_inj {α : Type} {f : α → ByteArray} {l : List α} (h : Sk f l) {x y : α} (hx : x ∈ l) (hy : y ∈ l) (e : f x = f y) : x = y := by
 obtain ⟨i, hi, rfl⟩ := List.mem_iff_getElem.1 hx
 obtain ⟨j, hj, rfl⟩ := List.mem_iff_getElem.1 hy
 have hp := List.pairwise_iff_getElem.1 h
 rcases Nat.lt_trichotomy i j with h1 | h1 | h1
 ·exact absurd (e ▸ hp i j hi hj h1) (ltL_irrefl _)
 ·subst h1; rfl
 ·exact absurd (e ▸ hp j i hj hi h1) (ltL_irrefl _)
def rmL {α : Type} (l : List α) (a : Nat) : List α := l.take a ++ l.drop (a + 1)
theorem rm_split {α : Type} (l : List α) (a : Nat) (h : a < l.length) : l = l.take a ++ l[a] :: l.drop (a + 1) := by
 rw [← List.drop_eq_getElem_cons h, List.take_append_drop]
theorem rm_sub {α : Type} (l : List α) (a : Nat) : (rmL l a).Sublist l := by
 unfold rmL
 conv => rhs; rw [← List.take_append_drop a l]
 have e : l.drop (a + 1) = (l.drop a).drop 1 := by rw [List.drop_drop]
 rw [e]
 exact List.Sublist.append (List.Sublist.refl _) (List.drop_sublist _ _)
theorem rm_sk {α : Type} {f : α → ByteArray} {l : List α} (h : Sk f l) (a : Nat) : Sk f (rmL l a) := List.Pairwise.sublist (rm_sub l a) h
theorem rm_mem {α : Type} {f : α → ByteArray} {l : List α} (h : Sk f l) (a : Nat) (ha : a < l.length) (y : α) : y ∈ rmL l a ↔ y ∈ l ∧ f y ≠ f l[a] := by
 have hs := rm_split l a ha
 constructor
 ·intro hy
  refine ⟨(rm_sub l a).subset hy, fun e => ?_⟩
  have h1 := h
  unfold Sk at h1
  rw [hs] at h1
  obtain ⟨_, h3, h4⟩ := List.pairwise_append.1 h1
  rcases List.mem_append.1 hy with h5 | h5
  ·exact absurd (e ▸ h4 y h5 l[a] (List.mem_cons_self ..)) (ltL_irrefl _)
  ·exact absurd (e ▸ (List.pairwise_cons.1 h3).1 y h5) (ltL_irrefl _)
 ·rintro ⟨hy, hne⟩
  rw [hs] at hy
  rcases List.mem_append.1 hy with h5 | h5
  ·exact List.mem_append_left _ h5
  ·rcases List.mem_cons.1 h5 with e | h6
   ·exact absurd (by rw [e]) hne
   ·exact List.mem_append_right _ h6
theorem bsR_spec (lt : Nat → Bool) (n : Nat) (hm : ∀ i j, i ≤ j → j < n → lt j = true → lt i = true) : ∀ k i j, i ≤ j → j ≤ n → j - i ≤ k → (∀ q, q < i → lt q = true) → (∀ q, j ≤ q → q < n → lt q = false) →
  (∀ q, q < bsR lt k i j → lt q = true) ∧ ∀ q, bsR lt k i j ≤ q → q < n → lt q = false
 | 0, i, j, h1, h2, h3, h4, h5 => by
  have : i = j := by omega
  subst this
  exact ⟨h4, h5⟩
 | k + 1, i, j, h1, h2, h3, h4, h5 => by
  rw [bsR]
  split
  ·rename_i hij
   split
   ·rename_i hl
    exact bsR_spec lt n hm k _ j (by omega) h2 (by omega) (fun q hq => hm q _ (by omega) (by omega) hl) h5
   ·rename_i hl
    refine bsR_spec lt n hm k i _ (by omega) (by omega) (by omega) h4 fun q hq hqn => ?_
    cases hh : lt q with
    | false => rfl
    | true => exact absurd (hm _ q hq hqn hh) hl
  ·rename_i hij
   have : i = j := by omega
   subst this
   exact ⟨h4, h5⟩
theorem place_spec {l : List Fl} (h : Sk Fl.path l) (s : ByteArray) (q : Nat) (hq : q < l.length) : q < placeF l s ↔ ltL l[q].path s := by
 have hlt : ∀ i (hi : i < l.length), (fileLt l s i = true ↔ ltL l[i].path s) := fun i hi => by
  unfold fileLt
  rw [List.getElem?_eq_getElem hi]
  simp only [decide_eq_true_eq]
  exact cmpS_lt _ _
 obtain ⟨h1, h2⟩ := bsR_spec (fileLt l s) l.length (fun i j hij hj hh => by
  rcases Nat.lt_or_ge i j with h1 | h1
  ·exact (hlt i (by omega)).2 (ltL_trans (List.pairwise_iff_getElem.1 h i j (by omega) hj h1) ((hlt j hj).1 hh))
  ·have : i = j := by omega
   subst this; exact hh) l.length 0 l.length (Nat.zero_le _) (Nat.le_refl _) (Nat.le_refl _) (fun q hq => by omega) (fun q hq hqn => by omega)
 constructor
 ·intro hp; exact (hlt q hq).1 (h1 q hp)
 ·intro hp
  rcases Nat.lt_or_ge q (placeF l s) with h3 | h3
  ·exact h3
  ·have := h2 q h3 hq
   rw [(hlt q hq).2 hp] at this
   cases this
theorem hasF_iff {l : List Fl} (h : Sk Fl.path l) (s : ByteArray) : hasF l s = true ↔ ∃ x ∈ l, x.path = s := by
 constructor
 ·intro hh
  unfold hasF at hh
  split at hh
  ·rename_i x hx
   exact ⟨x, List.mem_of_getElem? hx, (cmpS_eq _ _).1 (by simpa using hh)⟩
  ·cases hh
 ·rintro ⟨x, hx, rfl⟩
  obtain ⟨i, hi, rfl⟩ := List.mem_iff_getElem.1 hx
  have e : placeF l l[i].path = i := by
   have h1 : ¬ i < placeF l l[i].path := fun h2 => ltL_irrefl _ ((place_spec h _ i hi).1 h2)
   rcases Nat.lt_or_ge (placeF l l[i].path) i with h2 | h2
   ·exact absurd ((place_spec h _ (placeF l l[i].path) (by omega)).2 (List.pairwise_iff_getElem.1 h _ i (by omega) hi h2)) (Nat.lt_irrefl _)
   ·omega
  unfold hasF
  rw [e, List.getElem?_eq_getElem hi]
  simp only [decide_eq_true_eq]
  exact (cmpS_eq _ _).2 rfl
theorem ins_mem {l : List Fl} {i : Nat} {x y : Fl} : y ∈ insFl l i x ↔ y ∈ l ∨ y = x := by
 constructor
 ·exact insFl_mem
 ·unfold insFl
  rintro (h | h)
  ·rw [← List.take_append_drop i l] at h
   rcases List.mem_append.1 h with h | h
   ·exact List.mem_append_left _ h
   ·exact List.mem_append_right _ (List.mem_cons_of_mem _ h)
  ·exact List.mem_append_right _ (h ▸ List.mem_cons_self ..)
theorem ins_sk {l : List Fl} (h : Sk Fl.path l) (x : Fl) (hn : hasF l x.path = false) : Sk Fl.path (insFl l (placeF l x.path) x) := by
 have hne : ∀ y ∈ l, y.path ≠ x.path := fun y hy e => by rw [(hasF_iff h _).2 ⟨y, hy, e⟩] at hn; cases hn
 unfold insFl Sk
 refine List.pairwise_append.2 ⟨h.sublist (List.take_sublist _ _), List.pairwise_cons.2 ⟨fun y hy => ?_, h.sublist (List.drop_sublist _ _)⟩, fun y hy z hz => ?_⟩
 ·obtain ⟨j, hj, rfl⟩ := List.mem_iff_getElem.1 hy
  rw [List.length_drop] at hj
  rw [List.getElem_drop]
  have h1 : ¬ ltL l[placeF l x.path + j].path x.path := fun h2 => by have := (place_spec h x.path _ (by omega)).2 h2; omega
  exact ltL_or h1 (hne _ (List.getElem_mem _))
 ·obtain ⟨j, hj, rfl⟩ := List.mem_iff_getElem.1 hy
  rw [List.length_take] at hj
  have h1 : ltL (l.take (placeF l x.path))[j].path x.path := by
   rw [List.getElem_take]
   exact (place_spec h x.path j (by omega)).1 (by omega)
  rcases List.mem_cons.1 hz with rfl | hz
  ·exact h1
  ·obtain ⟨k, hk, rfl⟩ := List.mem_iff_getElem.1 hz
   rw [List.length_drop] at hk
   rw [List.getElem_drop, List.getElem_take]
   exact List.pairwise_iff_getElem.1 h j _ (by omega) (by omega) (by omega)
theorem tree_sk {l : List Fl} (h : treeX l = 0) : Sk Fl.path l := by
 unfold treeX at h
 split at h
 ·cases h
 split at h
 ·exact absurd h (by assumption)
 rename_i h1
 have h2 := firstN_zero (Decidable.not_not.1 h1)
 refine sk_adj fun q hq => ?_
 have h3 := h2 (q + 1) hq
 unfold fileE at h3
 split at h3
 ·split at h3
  ·cases h3
  ·rename_i h4
   rw [Nat.add_sub_cancel, atF_get l _ hq, atF_get l q (by omega)] at h4
   refine leS_false ?_
   cases hl : leS l[q + 1].path l[q].path with
   | false => rfl
   | true => exact absurd ⟨Nat.succ_pos q, hl⟩ h4
 ·cases h3
theorem sett_parts {m : Mg} (h : settX m = 0) : firstN (modE m.ms) m.ms.length = 0 ∧ treeX m.fs = 0 ∧ m.fs.any (fun x => isMod x.path) = false ∧ m.ts.length ≤ 200 ∧ firstN (textE m.fs m.ts) m.ts.length = 0 := by
 unfold settX at h
 split at h
 ·exact absurd h (by assumption)
 rename_i h1
 split at h
 ·exact absurd h (by assumption)
 rename_i h2
 split at h
 ·cases h
 rename_i h3
 split at h
 ·cases h
 rename_i h4
 exact ⟨Decidable.not_not.1 h1, Decidable.not_not.1 h2, by simpa using h3, by omega, h⟩
theorem mods_sk {m : Mg} (h : settX m = 0) : Sk Mo.label m.ms := by
 have h1 := firstN_zero (sett_parts h).1
 refine sk_adj fun q hq => ?_
 have h3 := h1 (q + 1) hq
 unfold modE at h3
 split at h3
 ·exact absurd h3 (by assumption)
 split at h3
 ·cases h3
 rename_i h4
 rw [Nat.add_sub_cancel, atM_get m.ms _ hq, atM_get m.ms q (by omega)] at h4
 refine leS_false ?_
 cases hl : leS m.ms[q + 1].label m.ms[q].label with
 | false => rfl
 | true => exact absurd ⟨Nat.succ_pos q, hl⟩ h4
theorem texts_at {m : Mg} (h : settX m = 0) (q : Nat) (hq : q < m.ts.length) : textX m.ts[q] = 0 ∧ hasF m.fs m.ts[q].path = false ∧ (0 < q → leS m.ts[q].path (atC m.ts (q - 1)).path = false) := by
 have h3 := firstN_zero (sett_parts h).2.2.2.2 q hq
 unfold textE at h3
 rw [atC_get m.ts q hq] at h3
 split at h3
 ·exact absurd h3 (by assumption)
 rename_i h4
 split at h3
 ·cases h3
 rename_i h5
 split at h3
 ·cases h3
 rename_i h6
 refine ⟨Decidable.not_not.1 h4, by simpa using h6, fun h0 => ?_⟩
 cases hl : leS m.ts[q].path (atC m.ts (q - 1)).path with
 | false => rfl
 | true => exact absurd ⟨h0, hl⟩ h5
theorem texts_sk {m : Mg} (h : settX m = 0) : Sk Tc.path m.ts := by
 refine sk_adj fun q hq => ?_
 have := (texts_at h (q + 1) hq).2.2 (Nat.succ_pos q)
 rw [Nat.add_sub_cancel, atC_get m.ts q (by omega)] at this
 exact leS_false this
end
section
open Go Go.RowKit
def settled (m : Mg) (s : Sq) (k : Nat) : Mg × Int :=
 if ¬ (stepX m s k).2 = 0 then (zeroG, (stepX m s k).2) else if ¬ settX (stepX m s k).1 = 0 then (zeroG, settX (stepX m s k).1) else ((stepX m s k).1, 0)
theorem ix_spot {l : List Sq} {s : Sq} (hs : s ∈ l) : ixF (fun y => eqQ y s) l = (l.findIdx (fun y => eqQ y s) : Int) ∧ l.findIdx (fun y => eqQ y s) < l.length ∧ atQ l (l.findIdx (fun y => eqQ y s)) = s := by
 obtain ⟨h1, h2⟩ := ixF_of (p := fun y => eqQ y s) (l := l) (List.any_eq_true.2 ⟨s, hs, (eqQ_iff s s).2 rfl⟩)
 refine ⟨h1, h2, ?_⟩
 have := List.findIdx_getElem (w := h2)
 rw [atQ_get l _ h2]
 exact (eqQ_iff _ _).1 this
theorem choose_spot {m : Mg} {s : Sq} (h0 : settX m = 0) (hs : s ∈ listQ m) (k : Int) (hk : 0 ≤ k ∧ k ≤ 2) : chooseX m (ixF (fun y => eqQ y s) (listQ m)) k = settled m s k.toNat := by
 obtain ⟨h1, h2, h3⟩ := ix_spot hs
 unfold chooseX settled
 rw [if_neg (Decidable.not_not.2 h0), h1, if_neg (by omega), Int.toNat_natCast, h3]
theorem settled_ok {m a : Mg} {s : Sq} {k : Nat} {e : Int} (h : settled m s k = (a, e)) (he : e = 0) : stepX m s k = (a, 0) ∧ settX a = 0 := by
 subst he
 unfold settled at h
 split at h
 ·rename_i h1; injection h with h2 h3; exact absurd h3 h1
 rename_i h1
 split at h
 ·rename_i h4; injection h with h2 h3; exact absurd h3 h4
 ·rename_i h4
  injection h with h2 h3
  subst h2
  exact ⟨Prod.ext rfl (Decidable.not_not.1 h1), Decidable.not_not.1 h4⟩
theorem mem_listQ {m : Mg} {q : Sq} : q ∈ listQ m ↔ (∃ x ∈ m.ms, q ∈ confMQ x) ∨ ∃ c ∈ m.ts, (⟨c.path, 5, 0, 0⟩ : Sq) = q := by
 unfold listQ
 rw [List.mem_append, List.mem_flatMap, List.mem_map]
theorem confMQ_at {x : Mo} {q : Sq} (h : q ∈ confMQ x) : q.label = x.label ∧ ¬ q.kind = 5 := by
 unfold confMQ at h
 split at h
 ·obtain ⟨d, _, h1, _, h2⟩ := conf_mem h
  exact ⟨h1, by omega⟩
 ·cases h
theorem text_of {m : Mg} (h0 : settX m = 0) {c : Tc} (hc : c ∈ m.ts) : m.ts.findIdx (isText c.path) < m.ts.length ∧ atC m.ts (m.ts.findIdx (isText c.path)) = c := by
 obtain ⟨h1, h2⟩ := isText_find (m := m) (path := c.path) (List.any_eq_true.2 ⟨c, hc, by simp [isText]⟩)
 exact ⟨h1, sk_inj (texts_sk h0) (atC_mem _ _ h1) hc h2⟩
def insC (fs : List Fl) (c : Tc) (k : Nat) : List Fl := if tcIn c k = true then insFl fs (placeF fs c.path) ⟨c.path, tcSide c k⟩ else fs
theorem step_text {m : Mg} (h0 : settX m = 0) {c : Tc} (hc : c ∈ m.ts) (k : Nat) : stepX m ⟨c.path, 5, 0, 0⟩ k = (⟨m.ms, insC m.fs c k, rmL m.ts (m.ts.findIdx (isText c.path))⟩, 0) := by
 obtain ⟨h1, h2⟩ := text_of h0 hc
 unfold stepX fileX insC rmL
 rw [if_pos rfl]
 simp only [h2]
theorem rm_text {m : Mg} (h0 : settX m = 0) {c : Tc} (hc : c ∈ m.ts) (y : Tc) : y ∈ rmL m.ts (m.ts.findIdx (isText c.path)) ↔ y ∈ m.ts ∧ y.path ≠ c.path := by
 obtain ⟨h1, h2⟩ := text_of h0 hc
 rw [rm_mem (texts_sk h0) _ h1, ← atC_get m.ts _ h1, h2]
theorem insC_mem {fs : List Fl} {c : Tc} {k : Nat} {y : Fl} : y ∈ insC fs c k ↔ y ∈ fs ∨ (tcIn c k = true ∧ y = ⟨c.path, tcSide c k⟩) := by
 unfold insC
 split
 ·rename_i h; rw [ins_mem]; simp [h]
 ·rename_i h; simp [h]
theorem insC_sk {fs : List Fl} (h : Sk Fl.path fs) (c : Tc) (k : Nat) (hn : hasF fs c.path = false) : Sk Fl.path (insC fs c k) := by
 unfold insC
 split
 ·exact ins_sk h ⟨c.path, tcSide c k⟩ hn
 ·exact h
theorem text_free {m : Mg} (h0 : settX m = 0) {c : Tc} (hc : c ∈ m.ts) : hasF m.fs c.path = false := by
 obtain ⟨i, hi, rfl⟩ := List.mem_iff_getElem.1 hc
 exact (texts_at h0 i hi).2.1
theorem insC_free {fs : List Fl} (h : Sk Fl.path fs) (c : Tc) (k : Nat) (hn : hasF fs c.path = false) {p : ByteArray} (hp : hasF fs p = false) (hne : p ≠ c.path) : hasF (insC fs c k) p = false := by
 cases hh : hasF (insC fs c k) p with
 | false => rfl
 | true =>
  obtain ⟨x, hx, rfl⟩ := (hasF_iff (insC_sk h c k hn) p).1 hh
  rcases insC_mem.1 hx with h1 | ⟨_, h1⟩
  ·rw [(hasF_iff h _).2 ⟨x, h1, rfl⟩] at hp; cases hp
  ·rw [h1] at hne; exact absurd rfl hne
theorem insC_comm {fs : List Fl} (h : Sk Fl.path fs) (c d : Tc) (j k : Nat) (hc : hasF fs c.path = false) (hd : hasF fs d.path = false) (hne : c.path ≠ d.path) : insC (insC fs c j) d k = insC (insC fs d k) c j := by
 refine sk_ext (insC_sk (insC_sk h c j hc) d k (insC_free h c j hc hd hne.symm)) (insC_sk (insC_sk h d k hd) c j (insC_free h d k hd hc hne)) fun x => ?_
 simp only [insC_mem]
 constructor
 ·rintro ((h1 | h1) | h1)
  ·exact .inl (.inl h1)
  ·exact .inr h1
  ·exact .inl (.inr h1)
 ·rintro ((h1 | h1) | h1)
  ·exact .inl (.inl h1)
  ·exact .inr h1
  ·exact .inl (.inr h1)
theorem mod_of {m : Mg} (h0 : settX m = 0) {x : Mo} (hx : x ∈ m.ms) : m.ms.findIdx (isMo x.label) < m.ms.length ∧ atM m.ms (m.ms.findIdx (isMo x.label)) = x := by
 obtain ⟨h1, h2⟩ := isMo_find (m := m) (label := x.label) (List.any_eq_true.2 ⟨x, hx, by simp [isMo]⟩)
 exact ⟨h1, sk_inj (mods_sk h0) (atM_mem _ _ h1) hx h2⟩
theorem step_mod {m : Mg} (h0 : settX m = 0) {x : Mo} (hx : x ∈ m.ms) {s : Sq} (hs : s ∈ confMQ x) (k : Nat) : stepX m s k = if (mstX x s k).2 = 0 then (putMo m (m.ms.findIdx (isMo x.label)) (mstX x s k).1, 0) else (zeroG, (mstX x s k).2) := by
 obtain ⟨h1, h2⟩ := mod_of h0 hx
 obtain ⟨h3, h4⟩ := confMQ_at hs
 unfold stepX
 rw [if_neg h4, h3, h2]
theorem mst_label {x : Mo} {s : Sq} {k : Nat} (h : (mstX x s k).2 = 0) : (mstX x s k).1.label = x.label := by
 unfold mstX at h ⊢
 split
 ·rename_i h1; rw [if_pos h1] at h; exact absurd h h1
 rename_i h1; rw [if_neg h1] at h
 split
 ·rename_i h2; rw [if_pos h2] at h; exact absurd h (by simp)
 rename_i h2; rw [if_neg h2] at h
 split
 ·rename_i h3; rw [if_pos h3] at h; exact absurd h (by simp)
 rename_i h3; rw [if_neg h3] at h
 split
 ·rename_i h4; rw [if_pos h4] at h; exact absurd h h4
 ·rfl
theorem set_find {l : List Mo} {a : Nat} (ha : a < l.length) {x : Mo} (hx : x.label = l[a].label) (p : ByteArray) : (l.set a x).findIdx (isMo p) = l.findIdx (isMo p) := by
 have h1 : ∀ l : List Mo, l.findIdx (isMo p) = (l.map Mo.label).findIdx fun s => decide (s = p) := fun l => by rw [List.findIdx_map]; rfl
 rw [h1, h1, List.map_set, hx]
 congr 1
 have := List.set_getElem_self (show a < (l.map Mo.label).length by simpa using ha)
 simpa using this
theorem spot_cases {m : Mg} {s : Sq} (hs : s ∈ listQ m) : (∃ c ∈ m.ts, s = ⟨c.path, 5, 0, 0⟩) ∨ ∃ x ∈ m.ms, s ∈ confMQ x := by
 rcases mem_listQ.1 hs with h | ⟨c, hc, h⟩
 ·exact .inr h
 ·exact .inl ⟨c, hc, h.symm⟩
structure Apart (m : Mg) (s t : Sq) (j k : Nat) (a b : Mg) : Prop where
 left : t ∈ listQ a
 right : s ∈ listQ b
 same : stepX a t k = stepX b s j
theorem Apart.symm {m : Mg} {s t : Sq} {j k : Nat} {a b : Mg} (h : Apart m s t j k a b) : Apart m t s k j b a := ⟨h.right, h.left, h.same.symm⟩
theorem apart_ff {m a b : Mg} (h0 : settX m = 0) {c d : Tc} (hc : c ∈ m.ts) (hd : d ∈ m.ts) (hne : c.path ≠ d.path) {j k : Nat} (ha : stepX m ⟨c.path, 5, 0, 0⟩ j = (a, 0)) (hb : stepX m ⟨d.path, 5, 0, 0⟩ k = (b, 0)) (h1 : settX a = 0) (h2 : settX b = 0) : Apart m ⟨c.path, 5, 0, 0⟩ ⟨d.path, 5, 0, 0⟩ j k a b := by
 rw [step_text h0 hc] at ha
 rw [step_text h0 hd] at hb
 injection ha with ha _
 injection hb with hb _
 have hda : d ∈ a.ts := by rw [← ha]; exact (rm_text h0 hc d).2 ⟨hd, hne.symm⟩
 have hcb : c ∈ b.ts := by rw [← hb]; exact (rm_text h0 hd c).2 ⟨hc, hne⟩
 refine ⟨mem_listQ.2 (.inr ⟨d, hda, rfl⟩), mem_listQ.2 (.inr ⟨c, hcb, rfl⟩), ?_⟩
 rw [step_text h1 hda, step_text h2 hcb]
 have e1 : a.ms = b.ms := by rw [← ha, ← hb]
 have e2 : insC a.fs d k = insC b.fs c j := by
  rw [← ha, ← hb]
  exact insC_comm (tree_sk (sett_parts h0).2.1) c d j k (text_free h0 hc) (text_free h0 hd) hne
 have e3 : rmL a.ts (a.ts.findIdx (isText d.path)) = rmL b.ts (b.ts.findIdx (isText c.path)) := by
  refine sk_ext (rm_sk (texts_sk h1) _) (rm_sk (texts_sk h2) _) fun y => ?_
  rw [rm_text h1 hda, rm_text h2 hcb]
  have f1 : y ∈ a.ts ↔ y ∈ m.ts ∧ y.path ≠ c.path := by rw [← ha]; exact rm_text h0 hc y
  have f2 : y ∈ b.ts ↔ y ∈ m.ts ∧ y.path ≠ d.path := by rw [← hb]; exact rm_text h0 hd y
  rw [f1, f2]
  constructor
  ·rintro ⟨⟨x1, x2⟩, x3⟩; exact ⟨⟨x1, x3⟩, x2⟩
  ·rintro ⟨⟨x1, x2⟩, x3⟩; exact ⟨⟨x1, x3⟩, x2⟩
 rw [e1, e2, e3]
theorem apart_fm {m a b : Mg} (h0 : settX m = 0) {c : Tc} (hc : c ∈ m.ts) {y : Mo} (hy : y ∈ m.ms) {t : Sq} (ht : t ∈ confMQ y) {j k : Nat} (ha : stepX m ⟨c.path, 5, 0, 0⟩ j = (a, 0)) (hb : stepX m t k = (b, 0)) (h1 : settX a = 0) (h2 : settX b = 0) : Apart m ⟨c.path, 5, 0, 0⟩ t j k a b := by
 rw [step_text h0 hc] at ha
 injection ha with ha _
 rw [step_mod h0 hy ht] at hb
 split at hb
 rotate_left
 ·rename_i h3; injection hb with _ h4; exact absurd h4 h3
 rename_i h3
 injection hb with hb _
 have hya : y ∈ a.ms := by rw [← ha]; exact hy
 have hcb : c ∈ b.ts := by rw [← hb]; exact hc
 refine ⟨mem_listQ.2 (.inl ⟨y, hya, ht⟩), mem_listQ.2 (.inr ⟨c, hcb, rfl⟩), ?_⟩
 rw [step_mod h1 hya ht, if_pos h3, step_text h2 hcb]
 rw [← ha, ← hb]
 rfl
theorem apart_mm {m a b : Mg} (h0 : settX m = 0) {x y : Mo} (hx : x ∈ m.ms) (hy : y ∈ m.ms) (hne : x.label ≠ y.label) {s t : Sq} (hs : s ∈ confMQ x) (ht : t ∈ confMQ y) {j k : Nat} (ha : stepX m s j = (a, 0)) (hb : stepX m t k = (b, 0)) (h1 : settX a = 0) (h2 : settX b = 0) : Apart m s t j k a b := by
 rw [step_mod h0 hx hs] at ha
 rw [step_mod h0 hy ht] at hb
 split at ha
 rotate_left
 ·rename_i h3; injection ha with _ h4; exact absurd h4 h3
 rename_i h3
 split at hb
 rotate_left
 ·rename_i h4; injection hb with _ h5; exact absurd h5 h4
 rename_i h4
 injection ha with ha _
 injection hb with hb _
 obtain ⟨i1, i2⟩ := mod_of h0 hx
 obtain ⟨j1, j2⟩ := mod_of h0 hy
 rw [atM_get m.ms _ i1] at i2
 rw [atM_get m.ms _ j1] at j2
 have hij : m.ms.findIdx (isMo x.label) ≠ m.ms.findIdx (isMo y.label) := fun e => hne (by
  have : m.ms[m.ms.findIdx (isMo x.label)] = m.ms[m.ms.findIdx (isMo y.label)] := by congr 1
  rw [i2, j2] at this
  rw [this])
 have hya : y ∈ a.ms := by
  rw [← ha]
  have : (m.ms.set (m.ms.findIdx (isMo x.label)) (mstX x s j).1)[m.ms.findIdx (isMo y.label)]'(by simpa using j1) = y := by rw [List.getElem_set_ne hij, j2]
  rw [← this]
  exact List.getElem_mem _
 have hxb : x ∈ b.ms := by
  rw [← hb]
  have : (m.ms.set (m.ms.findIdx (isMo y.label)) (mstX y t k).1)[m.ms.findIdx (isMo x.label)]'(by simpa using i1) = x := by rw [List.getElem_set_ne hij.symm, i2]
  rw [← this]
  exact List.getElem_mem _
 refine ⟨mem_listQ.2 (.inl ⟨y, hya, ht⟩), mem_listQ.2 (.inl ⟨x, hxb, hs⟩), ?_⟩
 rw [step_mod h1 hya ht, if_pos h4, step_mod h2 hxb hs, if_pos h3]
 have e1 : a.ms.findIdx (isMo y.label) = m.ms.findIdx (isMo y.label) := by
  rw [← ha]
  exact set_find i1 (by rw [mst_label h3, i2]) _
 have e2 : b.ms.findIdx (isMo x.label) = m.ms.findIdx (isMo x.label) := by
  rw [← hb]
  exact set_find j1 (by rw [mst_label h4, j2]) _
 rw [e1, e2, ← ha, ← hb]
 unfold putMo
 rw [List.set_comm _ _ hij]
theorem apart {m a b : Mg} (h0 : settX m = 0) {s t : Sq} (hs : s ∈ listQ m) (ht : t ∈ listQ m) (hne : s.label ≠ t.label) {j k : Nat} (ha : stepX m s j = (a, 0)) (hb : stepX m t k = (b, 0)) (h1 : settX a = 0) (h2 : settX b = 0) : Apart m s t j k a b := by
 rcases spot_cases hs with ⟨c, hc, rfl⟩ | ⟨x, hx, hxs⟩
 ·rcases spot_cases ht with ⟨d, hd, rfl⟩ | ⟨y, hy, hyt⟩
  ·exact apart_ff h0 hc hd hne ha hb h1 h2
  ·exact apart_fm h0 hc hy hyt ha hb h1 h2
 ·rcases spot_cases ht with ⟨d, hd, rfl⟩ | ⟨y, hy, hyt⟩
  ·exact (apart_fm h0 hd hx hxs hb ha h2 h1).symm
  ·exact apart_mm h0 hx hy (by rw [← (confMQ_at hxs).1, ← (confMQ_at hyt).1]; exact hne) hxs hyt ha hb h1 h2
theorem apart_settled {m a b : Mg} (h0 : settX m = 0) {s t : Sq} (hs : s ∈ listQ m) (ht : t ∈ listQ m) (hne : s.label ≠ t.label) {j k : Nat} {e f : Int} (ha : settled m s j = (a, e)) (hb : settled m t k = (b, f)) (he : e = 0) (hf : f = 0) : settX a = 0 ∧ settX b = 0 ∧ t ∈ listQ a ∧ s ∈ listQ b ∧ settled a t k = settled b s j := by
 obtain ⟨a1, a2⟩ := settled_ok ha he
 obtain ⟨b1, b2⟩ := settled_ok hb hf
 have h := apart h0 hs ht hne a1 b1 a2 b2
 refine ⟨a2, b2, h.left, h.right, ?_⟩
 unfold settled
 rw [h.same]
end
section
open Go Go.RowKit
theorem same_c {x y : Mg} (hg : x.Good) (h : settX x = 0 ∨ x = zeroG) : Con Tryz.prog 12 [avG x, avG y] (.d (.raw (.bool (eqG x y)))) := by
 refine rSameG_c x y hg.fine.ml hg.fine.fl hg.tl fun z hz => ?_
 rcases h with h | h
 ·have hb := mods_ok h z hz
  refine ⟨?_, hg.dl z hz, fun d hd => ⟨by have := hg.fine.bd z hz d hd; omega, ?_⟩⟩
  ·have := hb
   unfold bindX at this
   split at this
   ·split at this
    ·exact absurd this (by assumption)
    ·rename_i h1
     have := srcX_usesLen (Decidable.not_not.1 h1)
     omega
   ·cases this
  ·have := (bdecl_ok (bd_mem hb hd)).2.2.2.1
   unfold namesX at this
   split at this
   ·cases this
   ·omega
 ·subst h; cases hz
theorem settled_good {m : Mg} (hg : m.Good) (h0 : settX m = 0) {s : Sq} (hs : s ∈ listQ m) (k : Nat) : (settled m s k).1.Good ∧ (settX (settled m s k).1 = 0 ∨ (settled m s k).1 = zeroG) := by
 unfold settled
 split
 ·exact ⟨zeroG_good, .inr rfl⟩
 split
 ·exact ⟨zeroG_good, .inr rfl⟩
 ·rename_i h; exact ⟨step_good hg h0 hs k, .inl (Decidable.not_not.1 h)⟩
theorem encQs_get (l : List Sq) (i : Nat) (h : i < l.length) : (encQs l).getD i [] = encQ (atQ l i) := by rw [encQs_at l i h, atQ_get l i h]
set_option maxRecDepth 100000 in
set_option maxHeartbeats 32000000 in
theorem lawApart_c (m : Mg) (hb : ∀ x ∈ m.ms, ∀ d ∈ x.decls, nodesE d.body ≤ 1048576) (i k j1 j2 : Int) (hi : 0 ≤ i ∧ i ≤ 255) (hk : 0 ≤ k ∧ k ≤ 255) (hj1 : 0 ≤ j1 ∧ j1 ≤ 255) (hj2 : 0 ≤ j2 ∧ j2 ≤ 255) :
  Con Tryz.prog 4 [avG m, .d (.raw (.int .u8 i)), .d (.raw (.int .u8 k)), .d (.raw (.int .u8 j1)), .d (.raw (.int .u8 j2))] (.d (.raw (.bool true))) := by
 refine con_of Tryz.func4 rfl (by decide +kernel) rfl rfl (by simp [Tryz.ntmps4]) fun A hA => ?_
 rw [Tryz.ntmps4] at hA
 refine goC 400 ?_
 simp only [go_sem, hA, avG]
 refine goCall 400 (rGreatG_c m hb) rfl (by simp only [go_sem, avG]) (by simp only [go_sem, hA]) ?_
 cases h1 : greatG m with
 | true =>
  simp only [go_sem]
  refine goCall 400 awake37_c rfl rfl (by simp only [go_sem, hA]) ?_
  simp only [go_sem, hA, Tryz.results4]
 | false =>
 have hg := great_good h1
 simp only [go_sem, hA]
 refine goCall 400 (listV_c m hg) rfl (by simp only [go_sem, avG]) (by simp only [go_sem, hA]) ?_
 obtain ⟨L, hL⟩ : ∃ L, listV m = L := ⟨_, rfl⟩
 rw [hL]
 by_cases h2 : (L.length : Int) = 0
 ·have k1 : decide ((L.length : Int) = 0) = true := decide_eq_true h2
  simp only [go_sem, hA, encQs_length, k1]
  refine goCall 400 awake37_c rfl rfl (by simp only [go_sem, hA]) ?_
  simp only [go_sem, hA, Tryz.results4]
 have k1 : decide ((L.length : Int) = 0) = false := decide_eq_false h2
 have h0 : settX m = 0 := Decidable.byContradiction fun h => h2 (by rw [← hL]; unfold listV; rw [if_neg h]; rfl)
 have hLq : L = listQ m := by rw [← hL]; unfold listV; rw [if_pos h0]
 have w1 : IntKind.i64.wrap i = i := by rw [IntKind.wrap_i64]; omega
 have w2 : IntKind.i64.wrap k = k := by rw [IntKind.wrap_i64]; omega
 have w3 : IntKind.i64.wrap j1 = j1 := by rw [IntKind.wrap_i64]; omega
 have w4 : IntKind.i64.wrap j2 = j2 := by rw [IntKind.wrap_i64]; omega
 obtain ⟨p, hp, hpl⟩ : ∃ p : Nat, i.tmod (L.length : Int) = (p : Int) ∧ p < L.length := by
  have h3 := Int.tmod_nonneg (L.length : Int) hi.1
  have h4 := Int.tmod_lt_of_pos i (show (0 : Int) < (L.length : Int) by omega)
  exact ⟨(i.tmod (L.length : Int)).toNat, by omega, by omega⟩
 obtain ⟨q, hq, hql⟩ : ∃ q : Nat, k.tmod (L.length : Int) = (q : Int) ∧ q < L.length := by
  have h3 := Int.tmod_nonneg (L.length : Int) hk.1
  have h4 := Int.tmod_lt_of_pos k (show (0 : Int) < (L.length : Int) by omega)
  exact ⟨(k.tmod (L.length : Int)).toNat, by omega, by omega⟩
 subst hLq
 have hs := atQ_mem hpl
 have ht := atQ_mem hql
 have es := encQs_get (listQ m) p hpl
 have et := encQs_get (listQ m) q hql
 generalize hsq : atQ (listQ m) p = s at hs es
 generalize htq : atQ (listQ m) q = t at ht et
 by_cases hst : s.label = t.label
 ·have k2 : decide (s.label = t.label) = true := decide_eq_true hst
  simp only [go_sem, hA, encQs_length, k1, w1, w2, mixedF, hp, hq, Int.toNat_natCast, es, et, encQ, spR, k2]
  refine ⟨h2, ⟨by omega, by omega⟩, h2, ⟨by omega, by omega⟩, by show chk _ _ _ = true; kernel_rfl, ?_⟩
  refine goCall 400 awake37_c rfl rfl (by simp only [go_sem, hA]) ?_
  simp only [go_sem, hA, Tryz.results4]
 have k2 : decide (s.label = t.label) = false := decide_eq_false hst
 obtain ⟨u, hu, hu2⟩ : ∃ u : Nat, j1.tmod 3 = (u : Int) ∧ u ≤ 2 := by
  have h3 := Int.tmod_nonneg 3 hj1.1
  have h4 := Int.tmod_lt_of_pos j1 (show (0 : Int) < 3 by decide)
  exact ⟨(j1.tmod 3).toNat, by omega, by omega⟩
 obtain ⟨v, hv, hv2⟩ : ∃ v : Nat, j2.tmod 3 = (v : Int) ∧ v ≤ 2 := by
  have h3 := Int.tmod_nonneg 3 hj2.1
  have h4 := Int.tmod_lt_of_pos j2 (show (0 : Int) < 3 by decide)
  exact ⟨(j2.tmod 3).toNat, by omega, by omega⟩
 have c1 := choose_c m hg (ixF (fun y => eqQ y s) (listQ m)) (u : Int)
 rw [choose_spot h0 hs _ ⟨by omega, by omega⟩, Int.toNat_natCast] at c1
 have c2 := choose_c m hg (ixF (fun y => eqQ y t) (listQ m)) (v : Int)
 rw [choose_spot h0 ht _ ⟨by omega, by omega⟩, Int.toNat_natCast] at c2
 have ga := settled_good hg h0 hs u
 have gb := settled_good hg h0 ht v
 obtain ⟨⟨a, e⟩, hae⟩ : ∃ x, settled m s u = x := ⟨_, rfl⟩
 obtain ⟨⟨b, f⟩, hbf⟩ : ∃ x, settled m t v = x := ⟨_, rfl⟩
 rw [hae] at c1 ga
 rw [hbf] at c2 gb
 simp only at c1 c2 ga gb
 have fs := lFind_c (listQ m) s (listQ_few hg)
 have ft := lFind_c (listQ m) t (listQ_few hg)
 generalize hxs : ixF (fun y => eqQ y s) (listQ m) = xs at c1 fs
 generalize hxt : ixF (fun y => eqQ y t) (listQ m) = xt at c2 ft
 simp only [go_sem, hA, encQs_length, k1, w1, w2, mixedF, hp, hq, Int.toNat_natCast, es, et, encQ, spR, k2]
 refine ⟨h2, ⟨by omega, by omega⟩, h2, ⟨by omega, by omega⟩, by show chk _ _ _ = true; kernel_rfl, ?_⟩
 refine goCallD 400 fs rfl (by simp only [go_sem, avQ]) (by simp only [go_sem, hA]) ?_
 simp only [go_sem, hA, w3, hu]
 refine ⟨by decide, ?_⟩
 refine goCallD 400 c1 rfl (by simp only [go_sem, avG]) (by simp only [go_sem, hA]) ?_
 simp only [go_sem, hA, avG, mixedF]
 refine ⟨by show chk _ _ _ = true; kernel_rfl, ?_⟩
 refine goCallD 400 ft rfl (by simp only [go_sem, avQ]) (by simp only [go_sem, hA]) ?_
 simp only [go_sem, hA, w4, hv]
 refine ⟨by decide, ?_⟩
 refine goCallD 400 c2 rfl (by simp only [go_sem, avG]) (by simp only [go_sem, hA]) ?_
 by_cases he : ¬ e = 0
 ·have k3 : (decide ¬ e = 0) = true := decide_eq_true he
  simp only [go_sem, hA, avG, k3]
  refine ⟨by show chk _ _ _ = true; kernel_rfl, ?_⟩
  refine goCall 400 awake37_c rfl rfl (by simp only [go_sem, hA]) ?_
  simp only [go_sem, hA, Tryz.results4]
 have k3 : (decide ¬ e = 0) = false := decide_eq_false he
 by_cases hf : ¬ f = 0
 ·have k4 : (decide ¬ f = 0) = true := decide_eq_true hf
  simp only [go_sem, hA, avG, k3, k4]
  refine ⟨by show chk _ _ _ = true; kernel_rfl, ?_⟩
  refine goCall 400 awake37_c rfl rfl (by simp only [go_sem, hA]) ?_
  simp only [go_sem, hA, Tryz.results4]
 have k4 : (decide ¬ f = 0) = false := decide_eq_false hf
 obtain ⟨ha0, hb0, hta, hsb, hsame⟩ := apart_settled h0 hs ht hst hae hbf (Decidable.not_not.1 he) (Decidable.not_not.1 hf)
 have la := listV_c a ga.1
 have lb := listV_c b gb.1
 have va : listV a = listQ a := if_pos ha0
 have vb : listV b = listQ b := if_pos hb0
 rw [va] at la
 rw [vb] at lb
 have c3 := choose_c a ga.1 (ixF (fun y => eqQ y t) (listQ a)) (v : Int)
 rw [choose_spot ha0 hta _ ⟨by omega, by omega⟩, Int.toNat_natCast] at c3
 have c4 := choose_c b gb.1 (ixF (fun y => eqQ y s) (listQ b)) (u : Int)
 rw [choose_spot hb0 hsb _ ⟨by omega, by omega⟩, Int.toNat_natCast, ← hsame] at c4
 have gc := settled_good ga.1 ha0 hta v
 obtain ⟨⟨c, d⟩, hcd⟩ : ∃ x, settled a t v = x := ⟨_, rfl⟩
 rw [hcd] at c3 c4 gc
 simp only at c3 c4 gc
 have hsm := same_c (y := c) gc.1 gc.2
 rw [(eqG_iff c c).2 rfl] at hsm
 have fa := lFind_c (listQ a) t (listQ_few ga.1)
 have fb := lFind_c (listQ b) s (listQ_few gb.1)
 generalize hya : ixF (fun y => eqQ y t) (listQ a) = ya at c3 fa
 generalize hyb : ixF (fun y => eqQ y s) (listQ b) = yb at c4 fb
 simp only [go_sem, hA, avG, k3, k4, mixedF]
 refine ⟨by show chk _ _ _ = true; kernel_rfl, ?_⟩
 refine goCallD 400 la rfl (by simp only [go_sem, avG]) (by simp only [go_sem, hA]) ?_
 simp only [go_sem, hA]
 refine goCallD 400 fa rfl (by simp only [go_sem, avQ]) (by simp only [go_sem, hA]) ?_
 simp only [go_sem, hA, w4, hv]
 refine ⟨by decide, ?_⟩
 refine goCallD 400 c3 rfl (by simp only [go_sem, avG]) (by simp only [go_sem, hA]) ?_
 simp only [go_sem, hA, avG, mixedF]
 refine ⟨by show chk _ _ _ = true; kernel_rfl, ?_⟩
 refine goCallD 400 lb rfl (by simp only [go_sem, avG]) (by simp only [go_sem, hA]) ?_
 simp only [go_sem, hA]
 refine goCallD 400 fb rfl (by simp only [go_sem, avQ]) (by simp only [go_sem, hA]) ?_
 simp only [go_sem, hA, w3, hu]
 refine ⟨by decide, ?_⟩
 refine goCallD 400 c4 rfl (by simp only [go_sem, avG]) (by simp only [go_sem, hA]) ?_
 have k5 : decide (d = d) = true := decide_eq_true rfl
 simp only [go_sem, hA, avG]
 refine ⟨by show chk _ _ _ = true; kernel_rfl, ?_⟩
 refine goCall 400 hsm rfl (by simp only [go_sem, avG]) (by simp only [go_sem, hA]) ?_
 simp only [go_sem, hA]
 refine goCall 400 awake37_c rfl rfl (by simp only [go_sem, hA]) ?_
 simp only [go_sem, hA, Tryz.results4]
end
end Go.Proofs.YtnjedgpidalioaaGreatDoor
