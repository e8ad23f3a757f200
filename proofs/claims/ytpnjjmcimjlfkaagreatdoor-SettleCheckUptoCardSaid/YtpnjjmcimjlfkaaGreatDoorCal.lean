/- Texts of this proof, part 12: what the proof uses of them. -/
import Derived.Test.YtpnjjmcimjlfkaaGreatDoorCag
import Derived.Test.YtpnjjmcimjlfkaaGreatDoorCae
import Derived.Test.YtpnjjmcimjlfkaaGreatDoorCai
import Derived.Test.YtpnjjmcimjlfkaaGreatDoorCak
import Derived.Test.YtpnjjmcimjlfkaaGreatDoorCaf
import Derived.Lib.ItoaNum
import Derived.Lib.ItoaLen
import Derived.Shelf.Strings.Builder1
import Derived.Shelf.Small.Strs
import Derived.Shelf.Strings.BuilderF
import Derived.Shelf.Strings.BuilderK
import Derived.Shelf.Strconv.Itoa0
import Derived.Shelf.Strconv.Itoa1
import Derived.Shelf.LaysM
import Derived.Shelf.Strconv.Itoa2
import Derived.Shelf.Strconv.Itoa3
import Derived.Shelf.Strings.Search1
import Derived.Shelf.Strings.Search2
import Derived.Shelf.Strings.Search3
import Derived.Shelf.Strings.Shaped
import Derived.Shelf.Strings.Prefix
import Derived.Shelf.Unicode.DecodeSlow
import Derived.Shelf.Strings.BuilderCap
import Derived.Shelf.Slices.Turned
import Derived.Ground.Names2Prog
import Derived.Shelf.Slices.Clone
import Derived.Ground.SlgnProg
import Derived.Shelf.SlicesE.Clone
import Derived.Test.YtpnjjmcimjlfkaaGreatDoorProg
import Derived.Lib.Builder
import Derived.Lib.AppendStr
import Derived.Lib.UnsafeStr
import Derived.WalkKit
import Derived.Laws.Externs
import Derived.Lib.Hide
set_option maxRecDepth 100000
set_option maxHeartbeats 64000000
namespace Go.Proofs.YtpnjjmcimjlfkaaGreatDoor
section
open Go Go.RowKit
mutual
def zcc : Ex → List D
 | .mk k n m i d s => [.raw (.int .i64 k), .raw (.string n), .raw (.string m), .raw (.int .i64 i), .raw (.int .i64 d), .sl (zaY s)]
def zaY : List Ex → List (List D)
 | [] => []
 | e :: es => zcc e :: zaY es
end
theorem zcv (t : Ex) : zcc t = [.raw (.int .i64 t.kind), .raw (.string t.name), .raw (.string t.more), .raw (.int .i64 t.int), .raw (.int .i64 t.den), .sl (zaY t.sub)] := by cases t; rfl
theorem zm : ∀ l : List Ex, (zaY l).length = l.length
 | [] => rfl
 | e :: es => by rw [zaY]; simp [zm es]
theorem zbn (t : Ex) : (zcc t).length = 6 := by cases t; rfl
theorem zdl : ∀ l : List Ex, zaY l = l.map zcc
 | [] => rfl
 | e :: es => by rw [zaY, zdl es]; rfl
theorem zym (l : List Ex) (i : Nat) (h : i < l.length) : (zaY l).getD i [] = zcc l[i] := by
 rw [zdl]; simp [List.getD_eq_getElem?_getD, h]
theorem zck (l : List Ex) (i : Nat) (h : i < l.length) : (zaY l).getD i [] = [.raw (.int .i64 l[i].kind), .raw (.string l[i].name), .raw (.string l[i].more), .raw (.int .i64 l[i].int), .raw (.int .i64 l[i].den), .sl (zaY l[i].sub)] := by
 rw [zym l i h, zcv]
theorem zni (l : List Ex) : zK 6 (zaY l) := by
 intro r hr
 rw [zdl] at hr
 obtain ⟨t, _, rfl⟩ := List.mem_map.1 hr
 refine ⟨zbn t, fun x hx => ?_⟩
 rw [zcv] at hx
 simp only [List.mem_cons, List.not_mem_nil, or_false] at hx
 rcases hx with rfl | rfl | rfl | rfl | rfl | rfl <;> rfl
theorem zAn (l : List Ex) (i : Nat) (t : Ex) : (zaY l).set i (zcc t) = zaY (l.set i t) := by
 rw [zdl, zdl, List.map_set]
theorem zkD (a b : List Ex) : zaY a ++ zaY b = zaY (a ++ b) := by simp [zdl]
def avE (t : Ex) : AV := .agg ((zcc t).map .d)
theorem zw (t : Ex) : avE t = .agg [.d (.raw (.int .i64 t.kind)), .d (.raw (.string t.name)), .d (.raw (.string t.more)), .d (.raw (.int .i64 t.int)), .d (.raw (.int .i64 t.den)), .d (.sl (zaY t.sub))] := by
 rw [avE, zcv]; rfl
end
section
open Go.RowKit
structure XV where
 k : Int
 n : ByteArray
 m : ByteArray
 i : Int
 d : Int
 p : Option Addr
 q : Nat
 c : Nat
abbrev XV.arr (x : XV) : Array Value := #[.int .i64 x.k, .string x.n, .string x.m, .int .i64 x.i, .int .i64 x.d, .slice x.p x.q x.c]
def XAt (w : World) (t : Ex) (x : XV) : Prop := zje w w.heap.size t (.agg x.arr)
theorem zhU {w : World} {t : Ex} {x : XV} (h : XAt w t x) : x = ⟨t.kind, t.name, t.more, t.int, t.den, x.p, t.sub.length, x.c⟩ ∧ zas w w.heap.size t.sub (.slice x.p t.sub.length x.c) := by
 obtain ⟨sv, he, hs⟩ := zff.1 h
 obtain ⟨k, n, m, i, d, p, q, c⟩ := x
 obtain ⟨p', c', rfl, hc, hr⟩ := id hs
 simp only [XV.arr, Value.agg.injEq, Array.mk.injEq, List.cons.injEq, and_true, Value.int.injEq, Value.string.injEq, Value.slice.injEq, true_and] at he
 obtain ⟨rfl, rfl, rfl, rfl, rfl, rfl, rfl, rfl⟩ := he
 exact ⟨rfl, hs⟩
end
section
open Go Go.RowKit
theorem zrI {w : World} {B b : Nat} : ∀ (l : List Ex) (off : Nat), (∀ k (h : k < l.length), zhT w B b (off + k * 6) l[k]) → zdA w B b off l
 | [], off, _ => by simp [zdA]
 | e :: es, off, h => by
  rw [zdW]
  refine ⟨by have h0 := h 0 (by simp); rw [Nat.zero_mul, Nat.add_zero] at h0; exact h0, zrI es (off + 6) fun k hk => ?_⟩
  have := h (k + 1) (by simpa using hk)
  rw [show off + (k + 1) * 6 = off + 6 + k * 6 by omega] at this
  exact this
theorem zxs {w : World} {F : Nat → Nat → Prop} (hF : ∀ b o, F b o → b < w.heap.size) (N : Nat) : ∀ (sub : List Ex) (v : Value), nodesL sub < N → Reads w F (.sl (zaY sub)) v → zas w w.heap.size sub v := by
 induction N with
 | zero => intro sub v h; omega
 | succ N ih =>
  intro sub v hN h
  obtain ⟨p, cap, rfl, hcap⟩ := h.slice
  rw [zm] at hcap h ⊢
  refine ⟨p, cap, rfl, hcap, fun hpos => ?_⟩
  have hlen := zm sub
  have hrow : ∀ k (hk : k < sub.length), (zaY sub)[k]'(by omega) = zcc sub[k] := fun k hk => by
   simp only [zdl, List.getElem_map]
  obtain ⟨b, off, hp, h0⟩ := h.row 0 (by omega) (st := 6) (by rw [hrow 0 hpos]; exact zbn _)
  have hb : b < w.heap.size := by
   obtain ⟨h1, _⟩ := h0 0 (by rw [hrow 0 hpos, zbn]; omega)
   exact hF _ _ h1
  refine ⟨b, off, hp, hb, zrI sub off fun k hk => ?_⟩
  obtain ⟨b', off', hp', hk0⟩ := h.row k (by omega) (st := 6) (by rw [hrow k hk]; exact zbn _)
  rw [hp] at hp'
  simp only [Option.some.injEq, Addr.mk.injEq, and_true] at hp'
  obtain ⟨rfl, rfl⟩ := hp'
  have hn := zaP sub k hk
  rw [zbz] at hn
  have cell : ∀ j (hj : j < 6), ∃ u, w.cell? ⟨b, off + k * 6 + j, none⟩ = some u ∧ Reads w F ((zcc sub[k])[j]'(by rw [zbn]; exact hj)) u := fun j hj => by
   obtain ⟨_, u, h1, h2⟩ := hk0 j (by rw [hrow k hk, zbn]; exact hj)
   refine ⟨u, h1, ?_⟩
   have e : ((zaY sub)[k]'(by omega))[j]'(by rw [hrow k hk, zbn]; exact hj) = (zcc sub[k])[j]'(by rw [zbn]; exact hj) := by simp only [hrow k hk]
   rw [← e]; exact h2
  have enc : ∀ j (hj : j < 6), (zcc sub[k])[j]'(by rw [zbn]; exact hj) = [D.raw (.int .i64 sub[k].kind), .raw (.string sub[k].name), .raw (.string sub[k].more), .raw (.int .i64 sub[k].int), .raw (.int .i64 sub[k].den), .sl (zaY sub[k].sub)][j] := fun j hj => by
   simp only [zcv]
  obtain ⟨u0, a0, b0⟩ := cell 0 (by omega); rw [enc 0 (by omega)] at b0
  obtain ⟨u1, a1, b1⟩ := cell 1 (by omega); rw [enc 1 (by omega)] at b1
  obtain ⟨u2, a2, b2⟩ := cell 2 (by omega); rw [enc 2 (by omega)] at b2
  obtain ⟨u3, a3, b3⟩ := cell 3 (by omega); rw [enc 3 (by omega)] at b3
  obtain ⟨u4, a4, b4⟩ := cell 4 (by omega); rw [enc 4 (by omega)] at b4
  obtain ⟨u5, a5, b5⟩ := cell 5 (by omega); rw [enc 5 (by omega)] at b5
  obtain rfl := b0.raw_eq
  obtain rfl := b1.raw_eq
  obtain rfl := b2.raw_eq
  obtain rfl := b3.raw_eq
  obtain rfl := b4.raw_eq
  exact ⟨u5, a0, a1, a2, a3, a4, a5, ih _ _ (by omega) b5⟩
theorem zCU {w : World} {F : Nat → Nat → Prop} {t : Ex} {v : Value} (hF : ∀ b o, F b o → b < w.heap.size) (h : zco w F (avE t) v) : ∃ x : XV, v = .agg x.arr ∧ XAt w t x := by
 rw [zw] at h
 unfold zco at h
 generalize hcs : [AV.d (.raw (.int .i64 t.kind)), .d (.raw (.string t.name)), .d (.raw (.string t.more)), .d (.raw (.int .i64 t.int)), .d (.raw (.int .i64 t.den)), .d (.sl (zaY t.sub))] = cs at h
 cases h with
 | agg _ vs hl hh =>
  subst hcs
  match vs, hl with
  | [v0, v1, v2, v3, v4, v5], _ =>
   have g0 := hh 0 (by simp) (by simp)
   have g1 := hh 1 (by simp) (by simp)
   have g2 := hh 2 (by simp) (by simp)
   have g3 := hh 3 (by simp) (by simp)
   have g4 := hh 4 (by simp) (by simp)
   have g5 := hh 5 (by simp) (by simp)
   obtain rfl : v0 = _ := g0.raw_eq
   obtain rfl : v1 = _ := g1.raw_eq
   obtain rfl : v2 = _ := g2.raw_eq
   obtain rfl : v3 = _ := g3.raw_eq
   obtain rfl : v4 = _ := g4.raw_eq
   have h5 : Reads w F (.sl (zaY t.sub)) v5 := by
    simp only [List.getElem_cons_succ, List.getElem_cons_zero] at g5
    cases g5 with
    | d h => exact h
   have hs := zxs hF (nodesL t.sub + 1) t.sub v5 (by omega) h5
   obtain ⟨p, cap, rfl, hcap, hat⟩ := zaO hs
   exact ⟨⟨t.kind, t.name, t.more, t.int, t.den, p, t.sub.length, cap⟩, rfl, by
    unfold XAt
    rw [zff]
    exact ⟨_, rfl, hs⟩⟩
theorem zno {P : Program} {f : FuncId} {t : Ex} {r : Value} (he : zcS P f) (h : ∀ (x : XV) (w : World), XAt w t x → Calls P f #[.agg x.arr] w fun e w' => e = .returned r ∧ Below w.heap.size w w') : Con P f [avE t] (.d (.raw r)) := by
 refine ⟨he, rfl, fun F w vs hF _ hl hv => ?_⟩
 match vs, hl with
 | [v], _ =>
  obtain ⟨x, rfl, hx⟩ := zCU hF (hv 0 (by simp) (by simp))
  exact (h x w hx).mono fun e w' h' => ⟨r, h'.1, .d (.raw _), h'.2⟩
end
section
open Go.RowKit
theorem zpX {a : Ex} {xa : XV} {w : World} (ha : XAt w a xa) (hsz : zb a ≤ 1048576) :
  Calls Tryz.prog 230 #[.agg xa.arr] w fun e w' => e = .returned (.int .i64 (zE a)) ∧ Below w.heap.size w w' := by
 obtain ⟨ea, ha⟩ := zhU ha
 rw [ea]
 rw [zbz] at hsz
 have h := zmh a.kind a.name a.more a.int a.den a.sub _ w (by omega) ha
 rw [Ex.eta] at h
 exact h
theorem zpJ {a : Ex} {xa : XV} {w : World} (ha : XAt w a xa) (hsz : zb a ≤ 1048576) :
  Calls Tryz.prog 137 #[.agg xa.arr] w fun e w' => e = .returned (.int .i64 (zE a)) ∧ Below w.heap.size w w' := by
 obtain ⟨ea, ha⟩ := zhU ha
 rw [ea]
 rw [zbz] at hsz
 have h := zlP a.kind a.name a.more a.int a.den a.sub _ w (by omega) ha
 rw [Ex.eta] at h
 exact h
theorem zzg {a : Ex} {xa : XV} {w : World} (ha : XAt w a xa) (hsz : zb a ≤ 1048576) :
  Calls Tryz.prog 131 #[.agg xa.arr] w fun e w' => e = .returned (.bool (zgl a)) ∧ Below w.heap.size w w' := by
 obtain ⟨ea, ha⟩ := zhU ha
 rw [ea]
 rw [zbz] at hsz
 have h := zur a.kind a.name a.more a.int a.den a.sub _ w (by omega) ha
 rw [Ex.eta] at h
 exact h
end
section
open Go Go.RowKit
theorem zim (a : Ex) (hsz : zb a ≤ 1048576) : Con Tryz.prog 230 [avE a] (.d (.raw (.int .i64 (zE a)))) := zno ⟨_, Tryz.func230, by decide +kernel, rfl⟩ fun _ _ hx => zpX hx hsz
theorem zch (a : Ex) (hsz : zb a ≤ 1048576) : Con Tryz.prog 137 [avE a] (.d (.raw (.int .i64 (zE a)))) := zno ⟨_, Tryz.func137, by decide +kernel, rfl⟩ fun _ _ hx => zpJ hx hsz
theorem zzh (a : Ex) (hsz : zb a ≤ 1048576) : Con Tryz.prog 131 [avE a] (.d (.raw (.bool (zgl a)))) := zno ⟨_, Tryz.func131, by decide +kernel, rfl⟩ fun _ _ hx => zzg hx hsz
end
section
open Go Go.RowKit
def zt (l : List ByteArray) : List (List D) := l.map fun s => [.raw (.string s)]
theorem za (l : List ByteArray) : (zt l).length = l.length := by simp [zt]
theorem zJ (l : List ByteArray) (i : Nat) (h : i < l.length) : (zt l).getD i [] = [.raw (.string l[i])] := by
 simp [zt, List.getD_eq_getElem?_getD, h]
theorem zbl (l : List ByteArray) : zK 1 (zt l) := by
 intro r hr
 obtain ⟨s, _, rfl⟩ := List.mem_map.1 hr
 exact ⟨rfl, fun x hx => by simp at hx; subst hx; rfl⟩
theorem zgr (a b : List ByteArray) : zt a ++ zt b = zt (a ++ b) := by simp [zt]
theorem zjI (l : List ByteArray) (n : Nat) : (zt l).take n = zt (l.take n) := by simp [zt]
theorem zph (l : List ByteArray) (n : Nat) : (zt l).drop n = zt (l.drop n) := by simp [zt]
theorem zaB (l : List ByteArray) : ∀ r ∈ zt l, r.length = 1 := fun r hr => (zbl l r hr).1
def zbN (l : List ByteArray) (s : ByteArray) : Bool := l.any fun x => decide (x = s)
theorem zmZ (l : List ByteArray) (s : ByteArray) (q : Nat) (h : q < l.length) : zbN (l.take (q + 1)) s = (zbN (l.take q) s || decide (l[q] = s)) := by
 rw [List.take_succ_eq_append_getElem h, zbN, zbN, List.any_append]; simp
theorem zCr {l : List ByteArray} {s : ByteArray} {q : Nat} (h : q < l.length) (e : l[q] = s) : zbN l s = true := List.any_eq_true.2 ⟨l[q], List.getElem_mem h, by simp [e]⟩
abbrev zsz (l : List ByteArray) (s : ByteArray) (q : Nat) : St := ⟨[(0, .d (.sl (zt l))), (1, .d (.raw (.string s))), (5, .d (.raw (.int .i64 q)))], [], []⟩
theorem zDx (l : List ByteArray) (s : ByteArray) (hl : l.length ≤ 1048576) : Con Tryz.prog 228 [.d (.sl (zt l)), .d (.raw (.string s))] (.d (.raw (.bool (zbN l s)))) := by
 refine zj Tryz.func228 rfl (by decide +kernel) rfl rfl (by simp [Tryz.ntmps228]) fun A hA => ?_
 rw [Tryz.ntmps228] at hA
 refine goC 300 ?_
 simp only [go_sem, hA]
 refine ze [0, 1, 5] [] [] (fun x σ => ∃ q : Nat, q ≤ l.length ∧ x = l.length - q ∧ zbN (l.take q) s = false ∧ σ = zsz l s q) l.length ⟨0, by omega, by omega, rfl, by simp only [go_sem, zsz]⟩ ?_
 rintro x σ ⟨q, hq, rfl, hf, rfl⟩
 refine goC 300 ?_
 by_cases hlt : q < l.length
 ·have g1 : decide ((q : Int) < (l.length : Int)) = true := decide_eq_true (by omega)
  by_cases he : l[q] = s
  ·have g2 : decide (l[q] = s) = true := decide_eq_true he
   simp only [go_sem, hA, zsz, za, g1, Int.toNat_natCast, zJ l q hlt, g2, Tryz.results228, zCr hlt he]
   exact ⟨by omega, by omega⟩
  ·have g2 : decide (l[q] = s) = false := decide_eq_false he
   simp only [go_sem, hA, zsz, za, g1, Int.toNat_natCast, zJ l q hlt, g2]
   exact ⟨⟨by omega, by omega⟩, by unfold zf; omega, l.length - (q + 1), by omega, q + 1, by omega, rfl, by rw [zmZ l s q hlt, hf, g2]; rfl, rfl⟩
 ·have g1 : decide ((q : Int) < (l.length : Int)) = false := decide_eq_false (by omega)
  obtain rfl : q = l.length := by omega
  rw [List.take_length] at hf
  simp only [go_sem, hA, zsz, za, g1, Tryz.results228, hf]
def zeP : List ByteArray → List ByteArray → Bool
 | [], [] => true
 | x :: xs, y :: ys => decide (x = y) && zeP xs ys
 | _, _ => false
theorem zgB : ∀ a b : List ByteArray, zeP a b = true ↔ a = b
 | [], [] => by simp [zeP]
 | x :: xs, y :: ys => by simp only [zeP, Bool.and_eq_true, decide_eq_true_eq, zgB xs ys, List.cons.injEq]
 | [], y :: ys => by simp [zeP]
 | x :: xs, [] => by simp [zeP]
theorem zkh {a b : List ByteArray} (h : a ≠ b) : zeP a b = false := by
 cases hc : zeP a b
 ·rfl
 ·exact absurd ((zgB a b).1 hc) h
abbrev zyR (l m : List ByteArray) (q : Nat) : St := ⟨[(0, .d (.sl (zt l))), (1, .d (.sl (zt m))), (5, .d (.raw (.int .i64 q)))], [], []⟩
theorem zme (l m : List ByteArray) (hl : l.length ≤ 1048576) : Con Tryz.prog 93 [.d (.sl (zt l)), .d (.sl (zt m))] (.d (.raw (.bool (zeP l m)))) := by
 refine zj Tryz.func93 rfl (by decide +kernel) rfl rfl (by simp [Tryz.ntmps93]) fun A hA => ?_
 rw [Tryz.ntmps93] at hA
 refine goC 300 ?_
 by_cases hlm : l.length = m.length
 ·have g0 : (decide ¬ (l.length : Int) = (m.length : Int)) = false := decide_eq_false (by omega)
  simp only [go_sem, hA, za, g0]
  refine ze [0, 1, 5] [] [] (fun x σ => ∃ q : Nat, q ≤ l.length ∧ x = l.length - q ∧ l.take q = m.take q ∧ σ = zyR l m q) l.length ⟨0, by omega, by omega, rfl, by simp only [go_sem, zyR]⟩ ?_
  rintro x σ ⟨q, hq, rfl, hf, rfl⟩
  refine goC 300 ?_
  by_cases hlt : q < l.length
  ·have g1 : decide ((q : Int) < (l.length : Int)) = true := decide_eq_true (by omega)
   by_cases he : l[q] = m[q]
   ·have g2 : (decide ¬ l[q] = m[q]) = false := decide_eq_false (by simp [he])
    simp only [go_sem, hA, zyR, za, g1, Int.toNat_natCast, zJ l q hlt, zJ m q (by omega), g2, mixed]
    exact ⟨⟨by omega, by omega⟩, ⟨by omega, by omega⟩, by kernel_rfl, by unfold zf; omega, l.length - (q + 1), by omega, q + 1, by omega, rfl, by rw [List.take_succ_eq_append_getElem hlt, List.take_succ_eq_append_getElem (show q < m.length by omega), hf, he], rfl⟩
   ·have g2 : (decide ¬ l[q] = m[q]) = true := decide_eq_true he
    have hne : zeP l m = false := zkh fun e => he (by simp [e])
    simp only [go_sem, hA, zyR, za, g1, Int.toNat_natCast, zJ l q hlt, zJ m q (by omega), g2, mixed, Tryz.results93, hne]
    exact ⟨⟨by omega, by omega⟩, ⟨by omega, by omega⟩, by kernel_rfl⟩
  ·have g1 : decide ((q : Int) < (l.length : Int)) = false := decide_eq_false (by omega)
   obtain rfl : q = l.length := by omega
   have he : l = m := by rw [List.take_length, List.take_of_length_le (by omega)] at hf; exact hf
   have hs : zeP l m = true := (zgB _ _).2 he
   simp only [go_sem, hA, zyR, za, g1, Tryz.results93, hs]
 ·have g0 : (decide ¬ (l.length : Int) = (m.length : Int)) = true := decide_eq_true (by omega)
  have hne : zeP l m = false := zkh fun e => hlm (by rw [e])
  simp only [go_sem, hA, za, g0, Tryz.results93, hne]
def ltS (a b : ByteArray) : Bool := Op.bytesLess a.data.toList b.data.toList
end
section
open Go Go.RowKit
mutual
def zaV (k : Int) : Ex → Bool
 | .mk k' _ _ _ _ s => decide (k' = k) || zbJ k s
def zbJ (k : Int) : List Ex → Bool
 | [] => false
 | e :: es => zaV k e || zbJ k es
end
theorem zjy (k : Int) (l : List Ex) (q : Nat) (h : q < l.length) : zbJ k (l.take (q + 1)) = (zbJ k (l.take q) || zaV k l[q]) := by
 have app : ∀ a b : List Ex, zbJ k (a ++ b) = (zbJ k a || zbJ k b) := fun a b => by
  induction a with
  | nil => simp [zbJ]
  | cons x xs ih => simp only [List.cons_append, zbJ, ih, Bool.or_assoc]
 rw [List.take_succ_eq_append_getElem h, app]
 simp [zbJ]
theorem zxV (k : Int) (l : List Ex) (q : Nat) (h : q < l.length) (he : zaV k l[q] = true) : zbJ k l = true := by
 induction l generalizing q with
 | nil => simp at h
 | cons x xs ih =>
  cases q with
  | zero => simp only [List.getElem_cons_zero] at he; simp [zbJ, he]
  | succ q => simp only [List.getElem_cons_succ] at he; simp [zbJ, ih q (by simpa using h) he]
abbrev zns (k : Int) (n m : ByteArray) (i d : Int) (s : List Ex) : List AV := [.d (.raw (.int .i64 k)), .d (.raw (.string n)), .d (.raw (.string m)), .d (.raw (.int .i64 i)), .d (.raw (.int .i64 d)), .d (.sl (zaY s))]
abbrev zCi (k : Int) (n m : ByteArray) (i d : Int) (s : List Ex) (kk : Int) (q : Nat) : St := ⟨[(1, .d (.raw (.int .i64 kk))), (2, .box 0 0), (5, .d (.raw (.int .i64 q)))], [(0, some (.cell 105 (zns k n m i d s)))], []⟩
theorem rKinds_step (N : Nat) (kk : Int) (ih : ∀ t : Ex, zb t < N → zb t ≤ 1048576 → Con Tryz.prog 151 [avE t, .d (.raw (.int .i64 kk))] (.d (.raw (.bool (zaV kk t)))))
  (k : Int) (n m : ByteArray) (i d : Int) (s : List Ex) (hN : zb (.mk k n m i d s) < N + 1) (hb : zb (.mk k n m i d s) ≤ 1048576) : Con Tryz.prog 151 [avE (.mk k n m i d s), .d (.raw (.int .i64 kk))] (.d (.raw (.bool (zaV kk (.mk k n m i d s))))) := by
 rw [zb] at hN hb
 have hlen := zI s
 refine zj Tryz.func151 rfl (by decide +kernel) rfl (by simp only [AV.closed, zz, avE, zbC, Bool.and_self]) (by simp [Tryz.ntmps151]) fun A hA => ?_
 rw [Tryz.ntmps151] at hA
 refine goC 300 ?_
 by_cases hk : k = kk
 ·have g0 : decide (k = kk) = true := decide_eq_true hk
  simp only [go_sem, hA, avE, zcc, g0, zaV, Bool.true_or, Tryz.results151]
 ·have g0 : decide (k = kk) = false := decide_eq_false hk
  simp only [go_sem, hA, avE, zcc, g0, zaV]
  refine ze [1, 2, 5] [0] [] (fun x σ => ∃ q : Nat, q ≤ s.length ∧ x = s.length - q ∧ zbJ kk (s.take q) = false ∧ σ = zCi k n m i d s kk q) s.length ⟨0, by omega, by omega, rfl, by simp only [go_sem, zCi]⟩ ?_
  rintro x σ ⟨q, hq, rfl, hf, rfl⟩
  refine goC 300 ?_
  by_cases hlt : q < s.length
  ·have g1 : decide ((q : Int) < (s.length : Int)) = true := decide_eq_true (by omega)
   have hn1 := zaP s q hlt
   have hc := ih s[q] (by omega) (by omega)
   simp only [go_sem, hA, zCi, zm, g1, Int.toNat_natCast, zck s q hlt]
   refine ⟨⟨by omega, by omega⟩, ?_⟩
   cases he : zaV kk s[q] with
   | true =>
    rw [he] at hc
    refine zc 300 hc rfl (by simp only [go_sem, zw]) (by simp only [go_sem, hA]) ?_
    simp only [go_sem, hA, Tryz.results151, zxV kk s q hlt he]
   | false =>
    rw [he] at hc
    refine zc 300 hc rfl (by simp only [go_sem, zw]) (by simp only [go_sem, hA]) ?_
    simp only [go_sem, hA]
    exact ⟨by unfold zf; omega, s.length - (q + 1), by omega, q + 1, by omega, rfl, by rw [zjy kk s q hlt, hf, he]; rfl, rfl⟩
  ·have g1 : decide ((q : Int) < (s.length : Int)) = false := decide_eq_false (by omega)
   obtain rfl : q = s.length := by omega
   rw [List.take_length] at hf
   simp only [go_sem, hA, zCi, zm, g1, Tryz.results151, hf]
theorem zzf (kk : Int) (N : Nat) : ∀ t : Ex, zb t < N → zb t ≤ 1048576 → Con Tryz.prog 151 [avE t, .d (.raw (.int .i64 kk))] (.d (.raw (.bool (zaV kk t)))) := by
 induction N with
 | zero => intro t h; omega
 | succ N ih => intro t h hb; cases t; exact rKinds_step N kk ih _ _ _ _ _ _ h hb
end
section
open Go Go.RowKit
def zoY (n : Int) : ByteArray := ⟨(Lib.itoa n).toArray⟩
end
section
open Go Go.RowKit
abbrev bs (l : List UInt8) : ByteArray := ⟨l.toArray⟩
def atB (l : List ByteArray) (i : Nat) : ByteArray := l.getD i ⟨#[]⟩
theorem zsP (l : List ByteArray) (i : Nat) (h : i < l.length) : (zt l).getD i [] = [.raw (.string (atB l i))] := by
 rw [zJ l i h]
 simp [atB, List.getD_eq_getElem?_getD, h]
end
section
open Go Go.RowKit
end
end Go.Proofs.YtpnjjmcimjlfkaaGreatDoor
namespace Go.Proofs
open Go.Shelf
def Tryz.lays110_ren : Go.Shelf.Ren := ⟨fun | 110 => 262 | 109 => 290 | n => n, fun | 31 => 53 | 9 => 9 | 4 => 4 | 3 => 3 | 0 => 0 | n => n, fun | n => n⟩
theorem Tryz.lays110 : Go.Proofs.Lays.n110 Tryz.prog Tryz.lays110_ren := {
 mixed := by kernel_rfl
 f109 := Tryz.func290.trans (congrArg some (by kernel_rfl))
 f110 := Tryz.func262.trans (congrArg some (by kernel_rfl))
 t0 := Tryz.underlying0
 a0 := Tryz.isAgg0
 z0 := Tryz.sizeOf0
 v0 := Tryz.zeroValue0
 t3 := Tryz.underlying3
 a3 := Tryz.isAgg3
 z3 := Tryz.sizeOf3
 v3 := Tryz.zeroValue3
 t4 := Tryz.underlying4
 a4 := Tryz.isAgg4
 z4 := Tryz.sizeOf4
 v4 := Tryz.zeroValue4
 t9 := Tryz.underlying9
 a9 := Tryz.isAgg9
 z9 := Tryz.sizeOf9
 v9 := Tryz.zeroValue9
 t31 := Tryz.underlying53
 a31 := Tryz.isAgg53
 z31 := Tryz.sizeOf53
 v31 := Tryz.zeroValue53 }
open Go.Lib in
theorem Tryz.slices_Contains_string (b off n c : Nat) (zs : List ByteArray) (x : ByteArray) (w : World) (hz : n ≤ zs.length) (hbig : n ≤ 9223372036854775807) (hc : ∀ j, j < zs.length → w.cell? ⟨b, off + j, none⟩ = some (.string (zs.getD j ByteArray.empty))) :
  Calls Tryz.prog 262 #[.slice (some ⟨b, off, none⟩) n c, .string x] w fun e w' => e = .returned (.bool (Lib.containsS (zs.take n) x)) ∧ w' = w := Any.slices_Contains_string Tryz.lays110 b off n c zs x w hz hbig hc
open Go.Lib in
theorem Tryz.slices_Contains_string_empty (a : Option Addr) (c : Nat) (x : ByteArray) (w : World) :
  Calls Tryz.prog 262 #[.slice a 0 c, .string x] w fun e w' => e = .returned (.bool false) ∧ w' = w := Any.slices_Contains_string_empty Tryz.lays110 a c x w
def Tryz.laysNm216_ren : Go.Shelf.Ren := ⟨fun | 16 => 263 | n => n, fun | 24 => 53 | 9 => 9 | 4 => 4 | n => n, fun | n => n⟩
theorem Tryz.laysNm216 : Go.Proofs.Lays2.n16 Tryz.prog Tryz.laysNm216_ren := {
 mixed := by kernel_rfl
 f16 := Tryz.func263.trans (congrArg some (by kernel_rfl))
 t4 := Tryz.underlying4
 a4 := Tryz.isAgg4
 z4 := Tryz.sizeOf4
 v4 := Tryz.zeroValue4
 t9 := Tryz.underlying9
 a9 := Tryz.isAgg9
 z9 := Tryz.sizeOf9
 v9 := Tryz.zeroValue9
 t24 := Tryz.underlying53
 a24 := Tryz.isAgg53
 z24 := Tryz.sizeOf53
 v24 := Tryz.zeroValue53
 i9 := by kernel_rfl }
open Go.RowKit Go.Lib in
theorem Tryz.slices_Clone_string (b off n c : Nat) (zs : List ByteArray) (w : World) (hz : n ≤ zs.length) (hbig : n * 16 ≤ 140737488355328) (hc : ∀ j, j < zs.length → w.cell? ⟨b, off + j, none⟩ = some (.string (zs.getD j ByteArray.empty))) :
  Calls Tryz.prog 263 #[.slice (some ⟨b, off, none⟩) n c] w fun e w' => ∃ v', e = .returned v' ∧ w'.ownsRow w.heap.size 9 1 v' n ((zs.take n).map (Value.string)) ∧ v' ≠ .slice none 0 0 ∧ Below w.heap.size w w' := Any.slices_Clone_string Tryz.laysNm216 b off n c zs w hz hbig hc
open Go.RowKit Go.Lib in
theorem Tryz.slices_Clone_string_nil (n c : Nat) (w : World) :
  Calls Tryz.prog 263 #[.slice none n c] w fun e w' => e = .returned (.slice none 0 0) ∧ w' = w := Any.slices_Clone_string_nil Tryz.laysNm216 n c w
open Go.RowKit Go.Lib in
theorem Tryz.slices_Clone_string_zero (a : Addr) (c : Nat) (w : World) :
  Calls Tryz.prog 263 #[.slice (some a) 0 c] w fun e w' => ∃ v', e = .returned v' ∧ w'.ownsRow w.heap.size 9 1 v' 0 [] ∧ v' ≠ .slice none 0 0 ∧ Below w.heap.size w w' := Any.slices_Clone_string_zero Tryz.laysNm216 a c w
def Tryz.laysM171_ren : Go.Shelf.Ren := ⟨fun | 171 => 163 | 243 => 235 | 246 => 271 | 283 => 305 | 284 => 306 | 285 => 307 | 286 => 308 | 129 => 301 | 317 => 334 | 318 => 335 | 319 => 336 | 320 => 337 | 337 => 343 | 338 => 344 | n => n, fun | 3 => 3 | 9 => 9 | 2 => 2 | 4 => 4 | 171 => 330 | 0 => 0 | 53 => 40 | 37 => 144 | 5 => 5 | 173 => 332 | 212 => 355 | 51 => 323 | 20 => 20 | 213 => 356 | 46 => 180 | 232 => 364 | 233 => 365 | n => n, fun | 17 => 3 | 18 => 4 | 19 => 5 | n => n⟩
theorem Tryz.laysM171 : Go.Proofs.LaysM.n171 Tryz.prog Tryz.laysM171_ren := {
 mixed := by kernel_rfl
 f129 := Tryz.func301.trans (congrArg some (by kernel_rfl))
 f171 := Tryz.func163.trans (congrArg some (by kernel_rfl))
 f243 := Tryz.func235.trans (congrArg some (by kernel_rfl))
 f246 := Tryz.func271.trans (congrArg some (by kernel_rfl))
 f283 := Tryz.func305.trans (congrArg some (by kernel_rfl))
 f284 := Tryz.func306.trans (congrArg some (by kernel_rfl))
 f285 := Tryz.func307.trans (congrArg some (by kernel_rfl))
 f286 := Tryz.func308.trans (congrArg some (by kernel_rfl))
 f317 := Tryz.func334.trans (congrArg some (by kernel_rfl))
 f318 := Tryz.func335.trans (congrArg some (by kernel_rfl))
 f319 := Tryz.func336.trans (congrArg some (by kernel_rfl))
 f320 := Tryz.func337.trans (congrArg some (by kernel_rfl))
 f337 := Tryz.func343.trans (congrArg some (by kernel_rfl))
 f338 := Tryz.func344.trans (congrArg some (by kernel_rfl))
 t0 := Tryz.underlying0
 a0 := Tryz.isAgg0
 z0 := Tryz.sizeOf0
 v0 := Tryz.zeroValue0
 t2 := Tryz.underlying2
 a2 := Tryz.isAgg2
 z2 := Tryz.sizeOf2
 v2 := Tryz.zeroValue2
 t3 := Tryz.underlying3
 a3 := Tryz.isAgg3
 z3 := Tryz.sizeOf3
 v3 := Tryz.zeroValue3
 t4 := Tryz.underlying4
 a4 := Tryz.isAgg4
 z4 := Tryz.sizeOf4
 v4 := Tryz.zeroValue4
 t5 := Tryz.underlying5
 a5 := Tryz.isAgg5
 z5 := Tryz.sizeOf5
 v5 := Tryz.zeroValue5
 t9 := Tryz.underlying9
 a9 := Tryz.isAgg9
 z9 := Tryz.sizeOf9
 v9 := Tryz.zeroValue9
 t20 := Tryz.underlying20
 a20 := Tryz.isAgg20
 z20 := Tryz.sizeOf20
 v20 := Tryz.zeroValue20
 t37 := Tryz.underlying144
 a37 := Tryz.isAgg144
 z37 := Tryz.sizeOf144
 v37 := Tryz.zeroValue144
 t46 := Tryz.underlying180
 a46 := Tryz.isAgg180
 z46 := Tryz.sizeOf180
 v46 := Tryz.zeroValue180
 t51 := Tryz.underlying323
 a51 := Tryz.isAgg323
 z51 := Tryz.sizeOf323
 v51 := Tryz.zeroValue323
 t53 := Tryz.underlying40
 a53 := Tryz.isAgg40
 z53 := Tryz.sizeOf40
 v53 := Tryz.zeroValue40
 t171 := Tryz.underlying330
 a171 := Tryz.isAgg330
 z171 := Tryz.sizeOf330
 v171 := Tryz.zeroValue330
 t173 := Tryz.underlying332
 a173 := Tryz.isAgg332
 z173 := Tryz.sizeOf332
 v173 := Tryz.zeroValue332
 t212 := Tryz.underlying355
 a212 := Tryz.isAgg355
 z212 := Tryz.sizeOf355
 v212 := Tryz.zeroValue355
 t213 := Tryz.underlying356
 a213 := Tryz.isAgg356
 z213 := Tryz.sizeOf356
 t232 := Tryz.underlying364
 a232 := Tryz.isAgg364
 z232 := Tryz.sizeOf364
 v232 := Tryz.zeroValue364
 t233 := Tryz.underlying365
 a233 := Tryz.isAgg365
 z233 := Tryz.sizeOf365
 v233 := Tryz.zeroValue365
 g17 := by kernel_rfl
 g18 := by kernel_rfl
 g19 := by kernel_rfl
 i0 := by kernel_rfl
 i2 := by kernel_rfl
 i3 := by kernel_rfl
 i4 := by kernel_rfl
 i5 := by kernel_rfl
 i9 := by kernel_rfl
 i20 := by kernel_rfl
 i37 := by kernel_rfl
 i46 := by kernel_rfl
 i51 := by kernel_rfl
 i53 := by kernel_rfl
 i171 := by kernel_rfl
 i173 := by kernel_rfl
 i212 := by kernel_rfl
 i232 := by kernel_rfl
 i233 := by kernel_rfl
 m17 := by kernel_rfl
 m18 := by kernel_rfl
 m19 := by kernel_rfl }
open Go.RowKit Go.Sort Go.Lib in
theorem Tryz.strconv_Itoa (n : Int) (h0 : -9223372036854775808 ≤ n) (h1 : n ≤ 9223372036854775807) (w : World) (htab : Lib.TabIs Tryz.prog w "internal/strconv.uint64pow10" .u64 Lib.pow10Tab) :
  Calls Tryz.prog 163 #[.int .i64 n] w fun e w' => e = .returned (.string ⟨(Lib.itoa n).toArray⟩) ∧ ∃ k os, w' = grow (w.drewN k) os := Any.strconv_Itoa Tryz.laysM171 n h0 h1 w htab
def Tryz.lays169_ren : Go.Shelf.Ren := ⟨fun | 169 => 112 | n => n, fun | 70 => 143 | 9 => 9 | 0 => 0 | 72 => 146 | 37 => 144 | 127 => 218 | 3 => 3 | 5 => 5 | n => n, fun | n => n⟩
theorem Tryz.lays169 : Go.Proofs.Lays.n169 Tryz.prog Tryz.lays169_ren := {
 mixed := by kernel_rfl
 f169 := Tryz.func112.trans (congrArg some (by kernel_rfl))
 t0 := Tryz.underlying0
 a0 := Tryz.isAgg0
 z0 := Tryz.sizeOf0
 v0 := Tryz.zeroValue0
 t3 := Tryz.underlying3
 a3 := Tryz.isAgg3
 z3 := Tryz.sizeOf3
 v3 := Tryz.zeroValue3
 t9 := Tryz.underlying9
 a9 := Tryz.isAgg9
 z9 := Tryz.sizeOf9
 v9 := Tryz.zeroValue9
 t37 := Tryz.underlying144
 a37 := Tryz.isAgg144
 z37 := Tryz.sizeOf144
 v37 := Tryz.zeroValue144
 t70 := Tryz.underlying143
 a70 := Tryz.isAgg143
 z70 := Tryz.sizeOf143
 v70 := Tryz.zeroValue143
 t72 := Tryz.underlying146
 a72 := Tryz.isAgg146
 z72 := Tryz.sizeOf146
 v72 := Tryz.zeroValue146
 t127 := Tryz.underlying218
 a127 := Tryz.isAgg218
 z127 := Tryz.sizeOf218
 v127 := Tryz.zeroValue218 }
theorem Tryz.Builder_Extra_169 : Builder.Extra Tryz.prog Tryz.lays169_ren := {
 sizeBuilder := by kernel_rfl
 liesBuilder := by kernel_rfl
 t5 := Tryz.underlying5
 a5 := Tryz.isAgg5
 z5 := Tryz.sizeOf5
 v5 := Tryz.zeroValue5
 infoByte := by kernel_rfl
 cellsByte := by kernel_rfl
 sizeByte := by kernel_rfl
 neB5 := by decide }
open Go.RowKit in
theorem Tryz.Builder_String_any (B b : Nat) (l : List UInt8) (w : World) (h : Lib.IsBuilder 146 5 B b (Lib.byteCells l) w) (hBw : B ≤ w.heap.size) :
  Calls Tryz.prog 112 #[.pointer (some ⟨b, 0, none⟩)] w fun e w' => e = .returned (.string ⟨l.toArray⟩) ∧ Below B w w' := Any.Builder_String_any Tryz.lays169 Tryz.Builder_Extra_169 B b l w h hBw
end Go.Proofs
namespace Go.Proofs.YtpnjjmcimjlfkaaGreatDoor
section
open Go Go.RowKit
theorem zhF {w : World} {F : Nat → Nat → Prop} {l : List ByteArray} {v : Value} (h : Reads w F (.sl (zt l)) v) :
  (l = [] ∧ ∃ p cap, v = .slice p 0 cap) ∨ (0 < l.length ∧ ∃ b off cap, v = .slice (some ⟨b, off, none⟩) l.length cap ∧ l.length ≤ cap ∧ F b (off + 0 * 1 + 0) ∧ ∀ j, j < l.length → w.cell? ⟨b, off + j, none⟩ = some (.string (l.getD j ByteArray.empty))) := by
 obtain ⟨p, cap, rfl, hcap⟩ := h.slice
 rw [za] at hcap h ⊢
 by_cases hz : l.length = 0
 ·left
  have : l = [] := List.eq_nil_of_length_eq_zero hz
  subst this
  exact ⟨rfl, p, cap, rfl⟩
 ·right
  have hrow : ∀ i (hi : i < l.length), (zt l)[i]'(by rw [za]; exact hi) = [.raw (.string l[i])] := fun i hi => by simp [zt]
  have h0 := h.row 0 (by rw [za]; omega) (st := 1) (by rw [hrow 0 (by omega)]; rfl)
  obtain ⟨b, off, rfl, hc0⟩ := h0
  refine ⟨by omega, b, off, cap, rfl, hcap, (hc0 0 (by rw [hrow 0 (by omega)]; exact Nat.one_pos)).1, fun j hj => ?_⟩
  obtain ⟨b', off', he, hcj⟩ := h.row j (by rw [za]; omega) (st := 1) (by rw [hrow j hj]; rfl)
  obtain ⟨_, u, hu, hr⟩ := hcj 0 (by rw [hrow j hj]; exact Nat.one_pos)
  have hbb : b' = b ∧ off' = off := by
   injection he with he
   injection he with he1 he2
   exact ⟨he1.symm, he2.symm⟩
  obtain ⟨rfl, rfl⟩ := hbb
  have e : ((zt l)[j]'(by rw [za]; exact hj))[0]'(by rw [hrow j hj]; exact Nat.one_pos) = .raw (.string l[j]) := by simp only [hrow j hj, List.getElem_cons_zero]
  rw [e] at hr
  rw [hr.raw_eq, Nat.mul_one, Nat.add_zero] at hu
  rw [hu]
  simp [List.getD_eq_getElem?_getD, hj]
abbrev zaw (fs : List ByteArray) : List Value := fs.map Value.string
abbrev zao (fs : List ByteArray) : List AV := List.replicate fs.length (.d (.raw (.bool true)))
def zeh (fs : List ByteArray) (s : ByteArray) : List ByteArray := if zbN fs s then fs else fs ++ [s]
theorem zdk (s : ByteArray) : ∀ fs : List ByteArray, (zbc (.string s) (zaw fs)).isSome = zbN fs s
 | [] => rfl
 | f :: fs => by
  have ih := zdk s fs
  simp only [zaw, List.map_cons, zbc, zoX, zbN, List.any_cons]
  by_cases h : s = f
  ·subst h; simp
  ·have h' : ¬ f = s := fun e => h e.symm
   simp only [h, h', decide_false, Bool.false_eq_true, if_false, Option.isSome_map, Bool.false_or]
   exact ih
theorem zjF (s : ByteArray) : ∀ (fs : List ByteArray) (i : Nat), zbc (.string s) (zaw fs) = some i → i < fs.length
 | [], i, h => by simp [zaw, zbc] at h
 | f :: fs, i, h => by
  simp only [zaw, List.map_cons, zbc] at h
  split at h
  ·cases h; simp
  ·cases hf : zbc (.string s) (zaw fs) with
   | none => rw [show List.map Value.string fs = zaw fs from rfl, hf] at h; cases h
   | some j =>
    rw [show List.map Value.string fs = zaw fs from rfl, hf] at h
    cases h
    have := zjF s fs j hf
    simp; omega
theorem zmk (fs : List ByteArray) (s : ByteArray) : zio (zaw fs) (.string s) = zaw (zeh fs s) := by
 have h := zdk s fs
 unfold zio zeh
 cases hf : zbc (.string s) (zaw fs) with
 | none => rw [hf] at h; rw [← h]; simp [zaw]
 | some i => rw [hf] at h; rw [← h]; rfl
theorem zml (fs : List ByteArray) (s : ByteArray) : ziq (zaw fs) (zao fs) (.string s) (.d (.raw (.bool true))) = zao (zeh fs s) := by
 have h := zdk s fs
 unfold ziq zeh
 cases hf : zbc (.string s) (zaw fs) with
 | none =>
  rw [hf] at h
  rw [← h]
  simp only [Option.isSome_none, Bool.false_eq_true, if_false, zao, List.length_append, List.length_cons, List.length_nil, List.replicate_succ', Nat.zero_add]
 | some i =>
  rw [hf] at h
  rw [← h]
  simp only [Option.isSome_some, if_true]
  have := zjF s fs i hf
  apply List.ext_getElem
  ·simp
  ·intro j h1 h2
   simp []
theorem zbS (fs : List ByteArray) : (zaw fs).all (zcE .string) = true := by
 rw [List.all_eq_true]
 intro x hx
 obtain ⟨s, _, rfl⟩ := List.mem_map.1 hx
 rfl
theorem zat (fs : List ByteArray) : zz (zao fs) = true := by
 unfold zao
 induction fs.length with
 | zero => rfl
 | succ n ih => rw [List.replicate_succ, zz, ih]; rfl
theorem zH (r n : Nat) : zca r (List.replicate n (AV.d (D.raw (Value.bool true)))) = false := by
 induction n with
 | zero => rfl
 | succ n ih => rw [List.replicate_succ, zca, ih]; rfl
end
section
open Go Go.RowKit
theorem zvB (w : World) (k : Nat) (os : Array Obj) : Below w.heap.size w (Go.Sort.grow (w.drewN k) os) := by
 refine ⟨rfl, rfl, rfl, by simp [Go.Sort.grow, World.drewN], fun i hi => ?_⟩
 show (w.heap ++ os)[i]? = _
 rw [Array.getElem?_append_left hi]
theorem zDB (n : Int) (hn : zf n) : Con Tryz.prog 163 [.d (.raw (.int .i64 n))] (.d (.raw (.string (zoY n)))) := by
 refine ⟨⟨_, Tryz.func163, by decide +kernel, rfl⟩, rfl, fun F w vs hF hG hl hv => ?_⟩
 match vs, hl with
 | [v], _ =>
  have h0 := hv 0 (by simp) (by simp)
  simp only [List.getElem_cons_zero] at h0
  unfold zco at h0
  rw [h0.raw_eq]
  unfold zf at hn
  refine (Tryz.strconv_Itoa n (by omega) (by omega) w (hG.tab 3 (by kernel_rfl))).mono ?_
  rintro e w' ⟨rfl, k, os, rfl⟩
  exact ⟨_, rfl, .d (.raw _), zvB w k os⟩
end
section
open Go Go.RowKit
end
section
open Go Go.RowKit
structure Dc where
 id : Int
 kind : Int
 pub : Bool
 names : List ByteArray
 doubt : Bool
 body : Ex
def zdm (x : Dc) : List D := [.raw (.int .i64 x.id), .raw (.int .i64 x.kind), .raw (.bool x.pub), .sl (zt x.names), .raw (.bool x.doubt), .raw (.int .i64 x.body.kind), .raw (.string x.body.name), .raw (.string x.body.more), .raw (.int .i64 x.body.int), .raw (.int .i64 x.body.den), .sl (zaY x.body.sub)]
def avD (x : Dc) : AV := .agg [.d (.raw (.int .i64 x.id)), .d (.raw (.int .i64 x.kind)), .d (.raw (.bool x.pub)), .d (.sl (zt x.names)), .d (.raw (.bool x.doubt)), .d (.raw (.int .i64 x.body.kind)), .d (.raw (.string x.body.name)), .d (.raw (.string x.body.more)), .d (.raw (.int .i64 x.body.int)), .d (.raw (.int .i64 x.body.den)), .d (.sl (zaY x.body.sub))]
theorem zqK {P : Program} {f : FuncId} {s : ByteArray} {r : Value} (he : zcS P f) (h : ∀ (w : World), Calls P f #[.string s] w fun e w' => e = .returned r ∧ Below w.heap.size w w') : Con P f [.d (.raw (.string s))] (.d (.raw r)) := by
 refine ⟨he, rfl, fun F w vs hF _ hl hv => ?_⟩
 match vs, hl with
 | [v], _ =>
  have h0 := hv 0 (by simp) (by simp)
  simp only [List.getElem_cons_zero] at h0
  unfold zco at h0
  rw [h0.raw_eq]
  exact (h w).mono fun e w' h' => ⟨r, h'.1, .d (.raw _), h'.2⟩
theorem zwd (s : ByteArray) : Con Tryz.prog 148 [.d (.raw (.string s))] (.d (.raw (.bool (zah s)))) := zqK ⟨_, Tryz.func148, by decide +kernel, rfl⟩ fun w => zeR s w
def zN (l : List ByteArray) (s : ByteArray) : Bool := !zah s && (decide (l.length = 1) || decide (¬ s = ⟨#[]⟩))
def zaA (x : Dc) : Int :=
 if x.id < 0 ∨ 999999 < x.id then 2 else if x.kind < 1 ∨ 3 < x.kind then 9 else if ¬ x.names.length = 1 ∧ ¬ x.names.length = 3 then 1 else
 if x.names.any (zN x.names) then 6 else zE x.body
abbrev zCQ (x : Dc) (q : Nat) : St := ⟨[(1, .box 0 0), (2, .d (.raw (.int .i64 0))), (3, .d (.raw (.int .i64 q)))], [(0, some (.cell 107 [.d (.raw (.int .i64 x.id)), .d (.raw (.int .i64 x.kind)), .d (.raw (.bool x.pub)), .d (.sl (zt x.names)), .d (.raw (.bool x.doubt)), .d (.raw (.int .i64 x.body.kind)), .d (.raw (.string x.body.name)), .d (.raw (.string x.body.more)), .d (.raw (.int .i64 x.body.int)), .d (.raw (.int .i64 x.body.den)), .d (.sl (zaY x.body.sub))]))], []⟩
theorem zpY (x : Dc) (hb : zb x.body ≤ 524288) : Con Tryz.prog 150 [avD x] (.d (.raw (.int .i64 (zaA x)))) := by
 have cc := zim x.body (by omega)
 refine zj Tryz.func150 rfl (by decide +kernel) rfl rfl (by simp [Tryz.ntmps150]) fun A hA => ?_
 rw [Tryz.ntmps150] at hA
 refine goC 400 ?_
 by_cases h1 : x.id < 0
 ·have g1 : decide (x.id < 0) = true := decide_eq_true h1
  have he : zaA x = 2 := by unfold zaA; rw [if_pos (.inl h1)]
  simp only [go_sem, hA, avD, g1, he, Tryz.results150]
 have g1 : decide (x.id < 0) = false := decide_eq_false h1
 by_cases h2 : 999999 < x.id
 ·have g2 : decide (999999 < x.id) = true := decide_eq_true h2
  have he : zaA x = 2 := by unfold zaA; rw [if_pos (.inr h2)]
  simp only [go_sem, hA, avD, g1, g2, he, Tryz.results150]
 have g2 : decide (999999 < x.id) = false := decide_eq_false h2
 by_cases h3 : x.kind < 1
 ·have g3 : decide (x.kind < 1) = true := decide_eq_true h3
  have he : zaA x = 9 := by unfold zaA; rw [if_neg (by omega), if_pos (.inl h3)]
  simp only [go_sem, hA, avD, g1, g2, g3, he, Tryz.results150]
 have g3 : decide (x.kind < 1) = false := decide_eq_false h3
 by_cases h4 : 3 < x.kind
 ·have g4 : decide (3 < x.kind) = true := decide_eq_true h4
  have he : zaA x = 9 := by unfold zaA; rw [if_neg (by omega), if_pos (.inr h4)]
  simp only [go_sem, hA, avD, g1, g2, g3, g4, he, Tryz.results150]
 have g4 : decide (3 < x.kind) = false := decide_eq_false h4
 by_cases h5 : ¬ x.names.length = 1 ∧ ¬ x.names.length = 3
 ·have g5 : (decide ¬ (x.names.length : Int) = 1) = true := decide_eq_true (by omega)
  have g6 : (decide ¬ (x.names.length : Int) = 3) = true := decide_eq_true (by omega)
  have he : zaA x = 1 := by unfold zaA; rw [if_neg (by omega), if_neg (by omega), if_pos h5]
  simp only [go_sem, hA, avD, g1, g2, g3, g4, g5, g6, za, he, Tryz.results150]
 have h6 : x.names.length = 1 ∨ (¬ x.names.length = 1 ∧ x.names.length = 3) := by omega
 have he : zaA x = if x.names.any (zN x.names) then 6 else zE x.body := by unfold zaA; rw [if_neg (by omega), if_neg (by omega), if_neg h5]
 rcases h6 with h6 | ⟨h6, h7⟩
 case' inl =>
  have g5 : (decide ¬ (x.names.length : Int) = 1) = false := decide_eq_false (by omega)
  have g7 : decide ((x.names.length : Int) = 1) = true := decide_eq_true (by omega)
  simp only [go_sem, hA, avD, g1, g2, g3, g4, g5, za]
 case' inr =>
  have g5 : (decide ¬ (x.names.length : Int) = 1) = true := decide_eq_true (by omega)
  have g6 : (decide ¬ (x.names.length : Int) = 3) = false := decide_eq_false (by omega)
  have g7 : decide ((x.names.length : Int) = 1) = false := decide_eq_false (by omega)
  simp only [go_sem, hA, avD, g1, g2, g3, g4, g5, g6, za]
 all_goals
  refine ze [1, 2, 3] [0] [] (fun y σ => ∃ q : Nat, q ≤ x.names.length ∧ y = x.names.length - q ∧ (x.names.take q).any (zN x.names) = false ∧ σ = zCQ x q) x.names.length ⟨0, by omega, by omega, rfl, by simp only [go_sem, zCQ]⟩ ?_
  rintro y σ ⟨q, hq, rfl, hf, rfl⟩
  refine goC 400 ?_
  by_cases hlt : q < x.names.length
  ·have k1 : decide ((q : Int) < (x.names.length : Int)) = true := decide_eq_true (by omega)
   have hc := zwd x.names[q]
   simp only [go_sem, hA, zCQ, za, k1, Int.toNat_natCast, zJ x.names q hlt]
   refine ⟨⟨by omega, by omega⟩, ?_⟩
   have hbad : zN x.names x.names[q] = true → zaA x = 6 := fun h => by
    rw [he, if_pos]
    rw [List.any_eq_true]
    exact ⟨_, List.getElem_mem hlt, h⟩
   have hgood : zN x.names x.names[q] = false → (x.names.take (q + 1)).any (zN x.names) = false := fun h => by
    rw [List.take_succ_eq_append_getElem hlt, List.any_append, hf]
    simp [h]
   have g7' : decide (x.names.length = 1) = decide ((x.names.length : Int) = 1) := decide_eq_decide.2 (by omega)
   obtain ⟨one, g8⟩ : ∃ one, decide ((x.names.length : Int) = 1) = one := ⟨_, rfl⟩
   rw [g8] at g7'
   cases hn : zah x.names[q] with
   | true =>
    rw [hn] at hc
    have hb := hgood (by unfold zN; rw [hn]; rfl)
    refine zc 300 hc rfl (by simp only [go_sem]) (by simp only [go_sem, hA]) ?_
    simp only [go_sem, hA, undef]
    exact ⟨by unfold zf; omega, x.names.length - (q + 1), by omega, q + 1, by omega, rfl, hb, rfl⟩
   | false =>
    rw [hn] at hc
    refine zc 300 hc rfl (by simp only [go_sem]) (by simp only [go_sem, hA]) ?_
    cases one with
    | true =>
     have hb := hbad (by unfold zN; rw [hn, g7']; rfl)
     simp only [go_sem, hA, za, g8, hb, Tryz.results150]
    | false =>
     by_cases hz : x.names[q] = ⟨#[]⟩
     ·have hb := hgood (by unfold zN; rw [hn, g7', hz]; rfl)
      have k2 : decide (¬ x.names[q] = ⟨#[]⟩) = false := decide_eq_false (fun h => h hz)
      simp only [go_sem, hA, za, g8, Int.toNat_natCast, zJ x.names q hlt, k2]
      exact ⟨⟨by omega, by omega⟩, by unfold zf; omega, x.names.length - (q + 1), by omega, q + 1, by omega, rfl, hb, rfl⟩
     ·have hb := hbad (by unfold zN; rw [hn, g7']; simp [hz])
      have k2 : decide (¬ x.names[q] = ⟨#[]⟩) = true := decide_eq_true hz
      simp only [go_sem, hA, za, g8, Int.toNat_natCast, zJ x.names q hlt, k2, hb, Tryz.results150]
      exact ⟨by omega, by omega⟩
  ·have k1 : decide ((q : Int) < (x.names.length : Int)) = false := decide_eq_false (by omega)
   obtain rfl : q = x.names.length := by omega
   rw [List.take_length] at hf
   rw [hf] at he
   simp only [go_sem, hA, zCQ, za, k1]
   refine zc 300 cc rfl (by simp only [go_sem, zw]) (by simp only [go_sem, hA]) ?_
   simp only [go_sem, hA, he, Tryz.results150]
end
section
open Go Go.RowKit
end
section
open Go Go.RowKit
variable {A : Base Tryz.prog} {σ : St} {g : Gh} {a : Act} {w : World}
theorem zou {o : Oper} {c : Call} {p : Operand} {f : FuncId} (hk : Ok A σ g a w) (ho : o.op = .call c) (hp : c.callee = .value p) (hf : σ.eval p = .fn f []) (hen : zcS Tryz.prog f) : (execOp a.eval o).run Tryz.prog w = .ok (.enter f (c.args.toList.map a.eval).toArray) w := by
 have hpe := hk.eval p
 rw [hf] at hpe
 obtain ⟨vs, hv, hvl, hvs⟩ := hpe.fn_eq
 obtain rfl : vs = [] := List.eq_nil_of_length_eq_zero hvl.symm
 simp only [execOp, ho, resolve, hp, hv, Deferred.ofValue, Sem.run_bind, Sem.run_pure, Result.andThen_ok, invoke]
 rw [zaU hen]
 have he : #[] ++ c.args.map a.eval ++ [].toArray = (c.args.toList.map a.eval).toArray := by
  apply Array.ext'; simp
 rw [he]
end
section
open Go Go.RowKit
end
section
open Go Go.RowKit
end
section
open Go Go.RowKit
end
end Go.Proofs.YtpnjjmcimjlfkaaGreatDoor
