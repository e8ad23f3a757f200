/- Texts of this proof, part 24: what the proof uses of them. -/
import Derived.Test.YtpnjjmcimjlfkaaGreatDoorCaw
import Derived.Test.YtpnjjmcimjlfkaaGreatDoorCap
import Derived.Test.YtpnjjmcimjlfkaaGreatDoorCav
import Derived.Test.YtpnjjmcimjlfkaaGreatDoorCam
import Derived.Test.YtpnjjmcimjlfkaaGreatDoorCao
import Derived.Test.YtpnjjmcimjlfkaaGreatDoorCal
import Derived.Test.YtpnjjmcimjlfkaaGreatDoorCag
import Derived.Test.YtpnjjmcimjlfkaaGreatDoorCar
import Derived.Test.YtpnjjmcimjlfkaaGreatDoorCat
set_option maxRecDepth 100000
set_option maxHeartbeats 64000000
namespace Go.Proofs.YtpnjjmcimjlfkaaGreatDoor
section
open Go Go.RowKit
def zCz : List UInt8 → List UInt8 → Bool
 | [], [] => true
 | x :: l, y :: m => Nat.beq x.toNat y.toNat && zCz l m
 | _, _ => false
theorem zwz : ∀ {l m : List UInt8}, zCz l m = true → l = m
 | [], [], _ => rfl
 | x :: l, y :: m, h => by
  simp only [zCz, Bool.and_eq_true] at h
  rw [UInt8.toNat_inj.1 (Nat.eq_of_beq_eq_true h.1), zwz h.2]
 | [], _ :: _, h => by cases h
 | _ :: _, [], h => by cases h
def zDL : Value → Value → Bool
 | .string a, .string b => zCz a.data.toList b.data.toList
 | .int k a, .int l b => decide (k = l) && decide (a = b)
 | .bool a, .bool b => a == b
 | .slice none 0 0, .slice none 0 0 => true
 | _, _ => false
theorem zCy {a b : Value} (h : zDL a b = true) : a = b := by
 unfold zDL at h
 split at h
 ·rename_i a b
  have := zwz h
  obtain ⟨⟨a⟩⟩ := a
  obtain ⟨⟨b⟩⟩ := b
  simp only at this
  rw [this]
 ·simp only [Bool.and_eq_true, decide_eq_true_eq] at h
  rw [h.1, h.2]
 ·rw [beq_iff_eq] at h; rw [h]
 ·rfl
 ·cases h
mutual
def eqD : D → D → Bool
 | .raw a, .raw b => zDL a b
 | .sl a, .sl b => zyj a b
 | _, _ => false
def zyk : List D → List D → Bool
 | [], [] => true
 | x :: l, y :: m => eqD x y && zyk l m
 | _, _ => false
def zyj : List (List D) → List (List D) → Bool
 | [], [] => true
 | x :: l, y :: m => zyk x y && zyj l m
 | _, _ => false
end
mutual
theorem zAm : ∀ {x y : D}, eqD x y = true → x = y
 | .raw a, .raw b, h => by
  unfold eqD at h
  rw [zCy h]
 | .sl a, .sl b, h => by
  unfold eqD at h
  rw [zwx h]
 | .raw _, .sl _, h => by unfold eqD at h; cases h
 | .sl _, .raw _, h => by unfold eqD at h; cases h
theorem zwy : ∀ {x y : List D}, zyk x y = true → x = y
 | [], [], _ => rfl
 | x :: l, y :: m, h => by
  unfold zyk at h
  rw [Bool.and_eq_true] at h
  rw [zAm h.1, zwy h.2]
 | [], _ :: _, h => by unfold zyk at h; cases h
 | _ :: _, [], h => by unfold zyk at h; cases h
theorem zwx : ∀ {x y : List (List D)}, zyj x y = true → x = y
 | [], [], _ => rfl
 | x :: l, y :: m, h => by
  unfold zyj at h
  rw [Bool.and_eq_true] at h
  rw [zwy h.1, zwx h.2]
 | [], _ :: _, h => by unfold zyj at h; cases h
 | _ :: _, [], h => by unfold zyj at h; cases h
end
mutual
def eqA : AV → AV → Bool
 | .d a, .d b => eqD a b
 | .agg a, .agg b => zsN a b
 | .tup a, .tup b => zsN a b
 | _, _ => false
def zsN : List AV → List AV → Bool
 | [], [] => true
 | x :: l, y :: m => eqA x y && zsN l m
 | _, _ => false
end
mutual
theorem zDM : ∀ {x y : AV}, eqA x y = true → x = y := by
 intro x y h
 unfold eqA at h
 split at h
 ·rw [zAm h]
 ·rw [zlm h]
 ·rw [zlm h]
 ·cases h
theorem zlm : ∀ {x y : List AV}, zsN x y = true → x = y
 | [], [], _ => rfl
 | x :: l, y :: m, h => by
  unfold zsN at h
  rw [Bool.and_eq_true] at h
  rw [zDM h.1, zlm h.2]
 | [], _ :: _, h => by unfold zsN at h; cases h
 | _ :: _, [], h => by unfold zsN at h; cases h
end
def zwr : List (FuncId × List AV × AV) → FuncId → List AV → Option AV
 | [], _, _ => none
 | (g, zs, r) :: t, f, ys => if Nat.beq f g && zsN ys zs then some r else zwr t f ys
theorem zsr {P : Program} : ∀ {l : List (FuncId × List AV × AV)}, (∀ x ∈ l, Con P x.1 x.2.1 x.2.2) → ∀ {f : FuncId} {ys : List AV} {r : AV}, zwr l f ys = some r → Con P f ys r
 | [], _, _, _, _, h => by cases h
 | (g, zs, r') :: t, hl, f, ys, r, h => by
  unfold zwr at h
  split at h
  ·rename_i hc
   cases h
   rw [Bool.and_eq_true] at hc
   rw [Nat.eq_of_beq_eq_true hc.1, zlm hc.2]
   exact hl _ (List.mem_cons_self ..)
  ·exact zsr (fun x hx => hl x (List.mem_cons_of_mem _ hx)) h
def zrO : Nat → Nat → Option (List UInt8)
 | 0, _ => none
 | k + 1, n => if Nat.blt n 128 then some [n.toUInt8] else (zrO k (n / 128)).map ((n % 128 + 128).toUInt8 :: ·)
theorem zqa : ∀ {k n : Nat} {l : List UInt8}, zrO k n = some l → l = zbj n
 | k + 1, n, l, h => by
  unfold zrO at h
  split at h
  ·rename_i hc
   cases h
   rw [zgH (by simpa [Nat.blt_eq] using hc)]
  ·rename_i hc
   cases hr : zrO k (n / 128) with
   | none => rw [hr] at h; cases h
   | some l' =>
    rw [hr] at h
    cases h
    rw [zgI (by simpa [Nat.blt_eq] using hc), zqa hr]
def zsL : List (List D) → Option (List (List (List D)))
 | [] => some []
 | [.sl l] :: r => (zsL r).map (l :: ·)
 | _ => none
theorem zsK : ∀ {l : List (List D)} {ll : List (List (List D))}, zsL l = some ll → l = ll.map fun l => [D.sl l]
 | [], ll, h => by cases h; rfl
 | x :: r, ll, h => by
  unfold zsL at h
  split at h
  ·rename_i e; cases e
  ·rename_i l' r' e
   cases e
   cases hr : zsL r with
   | none => rw [hr] at h; cases h
   | some l'' =>
    rw [hr] at h
    cases h
    rw [zsK hr]; rfl
  ·cases h
def zDt (f : FuncId) (ys : List AV) : Option AV :=
 if Nat.beq f 240 then (match ys with
  | [.d (.raw (.int .i64 (.ofNat n)))] => if Nat.ble n 1099511627776 then (zrO 10 n).map fun l => .tup [.d (.raw (.string ⟨l.toArray⟩)), .d (.raw (.int .i64 0))] else none
  | _ => none)
 else if Nat.beq f 241 then (match ys with
  | [.d (.raw (.string s))] => if Nat.ble s.size 65536 then (zrO 10 s.size).map fun l => .tup [.d (.raw (.string ⟨(l ++ s.data.toList).toArray⟩)), .d (.raw (.int .i64 0))] else none
  | _ => none)
 else if Nat.beq f 178 then (match ys with
  | [.d (.sl l)] => match zsL l with
   | some ll => if Nat.ble ll.length 1048576 && Nat.ble ll.flatten.length 1048576 && ll.all (fun l => l.all fun r => Nat.beq r.length 3 && r.all D.one) then some (.d (.sl ll.flatten)) else none
   | none => none
  | _ => none)
 else none
theorem zBC : znH Tryz.prog zDt := by
 intro f ys r h
 unfold zDt at h
 split at h
 ·rename_i hf
  rw [Nat.eq_of_beq_eq_true hf]
  split at h
  ·rename_i n
   split at h
   ·rename_i hn
    cases hr : zrO 10 n with
    | none => rw [hr] at h; cases h
    | some l =>
     rw [hr] at h
     cases h
     rw [zqa hr]
     exact zrQ n (Nat.le_of_ble_eq_true hn)
   ·cases h
  ·cases h
 split at h
 ·rename_i hf
  rw [Nat.eq_of_beq_eq_true hf]
  split at h
  ·rename_i s
   split at h
   ·rename_i hn
    cases hr : zrO 10 s.size with
    | none => rw [hr] at h; cases h
    | some l =>
     rw [hr] at h
     cases h
     rw [zqa hr]
     exact zoA s (Nat.le_of_ble_eq_true hn)
   ·cases h
  ·cases h
 split at h
 ·rename_i hf
  rw [Nat.eq_of_beq_eq_true hf]
  split at h
  ·rename_i l
   split at h
   ·rename_i ll hl
    split at h
    ·rename_i hc
     cases h
     simp only [Bool.and_eq_true, List.all_eq_true] at hc
     obtain ⟨⟨h1, h2⟩, h3⟩ := hc
     rw [zsK hl]
     refine zys ll (Nat.le_of_ble_eq_true h1) (Nat.le_of_ble_eq_true h2) fun l hl r hr => ?_
     obtain ⟨h4, h5⟩ := h3 l hl r hr
     exact ⟨Nat.eq_of_beq_eq_true h4, h5⟩
    ·cases h
   ·cases h
  ·cases h
 ·cases h
def zoN : Mg := ⟨[], [], [⟨⟨#[110, 111, 116, 101, 115]⟩, true, true, true, ⟨#[49]⟩, ⟨#[50]⟩, ⟨#[51]⟩⟩]⟩
def zzC : Mg := ⟨[], [⟨⟨#[110, 111, 116, 101, 115]⟩, ⟨#[51]⟩⟩], []⟩
theorem zmG : zoN.Good := ⟨⟨by decide, by decide, (fun _ h => by cases h), (fun _ h => by cases h), (fun x h => by
 rw [List.mem_singleton.1 (show x ∈ [_] from h)]
 exact ⟨by decide, by decide, by decide, by decide⟩)⟩, by decide, (fun _ h => by cases h)⟩
theorem zuP : zzC.Good := ⟨⟨by decide, by decide, (fun _ h => by cases h), (fun x h => by
 rw [List.mem_singleton.1 (show x ∈ [_] from h)]
 exact ⟨by decide, by decide⟩), (fun _ h => by cases h)⟩, by decide, (fun _ h => by cases h)⟩
def zuk : List (FuncId × List AV × AV) := [(9, [avG zoN], .d (.raw (.int .i64 (zG zoN)))), (9, [avG zzC], .d (.raw (.int .i64 (zG zzC)))), (14, [avG zoN, .d (.raw (.int .i64 0)), .d (.raw (.int .i64 2))], .tup [avG (ziS zoN 0 2).1, .d (.raw (.int .i64 (ziS zoN 0 2).2))])]
theorem zxm : ∀ x ∈ zuk, Con Tryz.prog x.1 x.2.1 x.2.2 := by
 intro x hx
 simp only [zuk, List.mem_cons, List.not_mem_nil, or_false] at hx
 rcases hx with rfl | rfl | rfl
 ·exact zdU _ zmG.fine
 ·exact zdU _ zuP.fine
 ·exact zAB _ zmG 0 2
def zDi (f : FuncId) (ys : List AV) : Option AV := match zwr zuk f ys with
 | some r => some r
 | none => zDt f ys
theorem zyN : znH Tryz.prog zDi := by
 intro f ys r h
 unfold zDi at h
 split at h
 ·rename_i r' h1; cases h; exact zsr zxm h1
 ·exact zBC _ _ _ h
end
section
open Go Go.RowKit
theorem zpv : Con Tryz.prog 8 [] (.d (.raw (.bool true))) :=
 zCD 20000 (by kernel_rfl) zyN zDu (zDv) (by kernel_rfl)
end
section
open Go Go.RowKit
def zel (l : List ByteArray) : Int := if 20 < l.length then 4 else zl (zgX l) l.length
abbrev zBN (l : List ByteArray) (q : Nat) : St := ⟨[(0, .d (.sl (zt l))), (3, .d (.raw (.int .i64 q)))], [], []⟩
theorem zBV (l : List ByteArray) : Con Tryz.prog 83 [.d (.sl (zt l))] (.d (.raw (.int .i64 (zel l)))) := by
 refine zj Tryz.func83 rfl (by decide +kernel) rfl rfl (by simp [Tryz.ntmps83]) fun A hA => ?_
 rw [Tryz.ntmps83] at hA
 refine goC 400 ?_
 by_cases h1 : 20 < l.length
 ·have g1 : decide ((20 : Int) < (l.length : Int)) = true := decide_eq_true (by omega)
  have he : zel l = 4 := if_pos h1
  simp only [go_sem, hA, za, g1, he, Tryz.results83]
 have g1 : decide ((20 : Int) < (l.length : Int)) = false := decide_eq_false (by omega)
 have hs0 : zel l = zl (zgX l) l.length := if_neg h1
 simp only [go_sem, hA, za, g1]
 refine ze [0, 3] [] [] (fun y σ => ∃ q : Nat, q ≤ l.length ∧ y = l.length - q ∧ zl (zgX l) q = 0 ∧ σ = zBN l q) l.length ⟨0, by omega, by omega, rfl, by simp only [go_sem, zBN]⟩ ?_
 rintro y σ ⟨q, hq, rfl, hf, rfl⟩
 refine goC 400 ?_
 by_cases hlt : q < l.length
 ·have k1 : decide ((q : Int) < (l.length : Int)) = true := decide_eq_true (by omega)
  have hc := zil l[q]
  have hat := zgU l q hlt
  have hhit : ∀ e : Int, ¬ e = 0 → zgX l q = e → zel l = e := fun e h0 h => by
   have h2 := zC (n := l.length) hf hlt (by rw [h]; exact h0)
   rw [hs0, h2, h]
  simp only [go_sem, hA, zBN, za, k1, Int.toNat_natCast, zJ l q hlt]
  refine ⟨⟨by omega, by omega⟩, ?_⟩
  refine zc 300 hc rfl (by simp only [go_sem]) (by simp only [go_sem, hA]) ?_
  cases hl : zR l[q].data.toList with
  | false =>
   have hr := hhit 6 (by decide) (by unfold zgX; rw [hat, hl]; rfl)
   simp only [go_sem, hA, hr, Tryz.results83]
  | true =>
   have hu : zgX l q = if 0 < q ∧ ltS (atB l (q - 1)) (atB l q) = false then 10 else 0 := by unfold zgX; rw [hat, hl]; rfl
   by_cases hq0 : 0 < q
   ·have k2 : decide ((0 : Int) < (q : Int)) = true := decide_eq_true (by omega)
    have hq1 : ((q : Int) - 1).toNat = q - 1 := by omega
    have hat1 := zgU l (q - 1) (by omega)
    have hin : zf ((q : Int) - 1) := by unfold zf; omega
    have hw : IntKind.i64.wrap ((q : Int) - 1) = (q : Int) - 1 := zfp hin
    cases hls : ltS l[q - 1] l[q] with
    | false =>
     have hls' : Op.bytesLess l[q - 1].data.toList l[q].data.toList = false := hls
     have hr := hhit 10 (by decide) (by rw [hu, hat, hat1, if_pos ⟨hq0, hls⟩])
     simp only [go_sem, hA, k2, za, hq1, Int.toNat_natCast, zJ l q hlt, zJ l (q - 1) (by omega), hls', hr, mixed, Tryz.results83]
     exact ⟨hin, ⟨by omega, by omega⟩, ⟨by omega, by omega⟩, by show chk _ _ _ = true; kernel_rfl⟩
    | true =>
     have hls' : Op.bytesLess l[q - 1].data.toList l[q].data.toList = true := hls
     have hz := zr hf (by rw [hu, hat, hat1, hls, if_neg (by simp)])
     simp only [go_sem, hA, k2, za, hq1, Int.toNat_natCast, zJ l q hlt, zJ l (q - 1) (by omega), hls', mixed]
     exact ⟨hin, ⟨by omega, by omega⟩, ⟨by omega, by omega⟩, ⟨by show chk _ _ _ = true; kernel_rfl, by unfold zf; omega, l.length - (q + 1), by omega, q + 1, by omega, rfl, hz, rfl⟩⟩
   ·have k2 : decide ((0 : Int) < (q : Int)) = false := decide_eq_false (by omega)
    have hz := zr hf (by rw [hu, if_neg (fun h => hq0 h.1)])
    simp only [go_sem, hA, k2, undef, mixed]
    exact ⟨by show chk _ _ _ = true; kernel_rfl, by unfold zf; omega, l.length - (q + 1), by omega, q + 1, by omega, rfl, hz, rfl⟩
 have k1 : decide ((q : Int) < (l.length : Int)) = false := decide_eq_false (by omega)
 obtain rfl : q = l.length := by omega
 rw [hf] at hs0
 simp only [go_sem, hA, zBN, za, k1, hs0, Tryz.results83]
theorem zxe (e : Dc → Int) (x : Sr) : zfr e x = if ¬ zel x.uses = 0 then zel x.uses else if 100 < x.decls.length then 4 else zl (zkE e x.decls) x.decls.length := by
 unfold zfr zel
 by_cases h : 20 < x.uses.length
 ·rw [if_pos h, if_pos h, if_pos (by decide)]
 ·rw [if_neg h, if_neg h]
end
section
open Go Go.RowKit
mutual
theorem zmU (k : Int) : ∀ t : Ex, zaV k t = zcI (fun x => decide (x.kind = k)) t
 | .mk k' n m i d s => by rw [zaV, zcI, zmT k s]; rfl
theorem zmT (k : Int) : ∀ l : List Ex, zbJ k l = zdn (fun x => decide (x.kind = k)) l
 | [] => rfl
 | e :: es => by rw [zbJ, zdn, zmU k e, zmT k es]
end
def zBT (label : ByteArray) (d : Dc) : Int :=
 if d.id < 1 then 2 else if ¬ zaA d = 0 then zaA d else if zaV 4 d.body then 9 else if 0 < (zhn d.body).length then 21 else if zcI (zbZ label) d.body then 1 else 0
theorem zBS (label : ByteArray) (d : Dc) : zBT label d = zbf label d := by
 unfold zBT zbf zaA zak
 rw [zmU, zxf]
 by_cases h0 : d.id < 1
 ·rw [if_pos h0, if_pos (.inl h0)]
 rw [if_neg h0]
 by_cases h1 : 999999 < d.id
 ·rw [if_pos (show d.id < 0 ∨ 999999 < d.id from .inr h1), if_pos (show d.id < 1 ∨ 999999 < d.id from .inr h1), if_pos (show ¬ (2 : Int) = 0 by decide)]
 rw [if_neg (show ¬ (d.id < 0 ∨ 999999 < d.id) by omega), if_neg (show ¬ (d.id < 1 ∨ 999999 < d.id) by omega)]
 by_cases h2 : d.kind < 1 ∨ 3 < d.kind
 ·rw [if_pos h2, if_pos (show ¬ d.kind = 1 ∧ ¬ d.kind = 2 ∧ ¬ d.kind = 3 by omega), if_pos (show ¬ (9 : Int) = 0 by decide)]
 rw [if_neg h2, if_neg (show ¬ (¬ d.kind = 1 ∧ ¬ d.kind = 2 ∧ ¬ d.kind = 3) by omega)]
 by_cases h3 : ¬ d.names.length = 1 ∧ ¬ d.names.length = 3
 ·rw [if_pos h3, if_pos h3, if_pos (show ¬ (1 : Int) = 0 by decide), if_pos (show ¬ (1 : Int) = 0 by decide)]
 rw [if_neg h3, if_neg h3]
 by_cases h4 : d.names.any (zN d.names) = true
 ·rw [if_pos h4, if_pos h4, if_pos (show ¬ (6 : Int) = 0 by decide), if_pos (show ¬ (6 : Int) = 0 by decide)]
 rw [if_neg h4, if_neg h4, if_neg (show ¬ ¬ (0 : Int) = 0 by decide)]
theorem ztO (e : Dc → Int) (l : List ByteArray) : zfr e ⟨l, []⟩ = zel l := by
 rw [zxe]
 split
 ·rfl
 ·rename_i h
  rw [if_neg (by simp)]
  exact (Decidable.not_not.1 h).symm
end
section
open Go Go.RowKit
theorem zwE : ∀ a b : List UInt8, Lib.compareBytes a b < 0 ↔ a < b
 | [], [] => by simp [Lib.compareBytes]
 | [], _ :: _ => by simp [Lib.compareBytes]
 | _ :: _, [] => by simp [Lib.compareBytes]
 | x :: a, y :: b => by
  rw [Lib.compareBytes, List.cons_lt_cons_iff]
  split
  ·rename_i h; simp [h]
  ·rename_i h
   split
   ·rename_i h2
    have : x ≠ y := fun e => by subst e; exact h h2
    simp [h, this]
   ·rename_i h2
    have e : x = y := UInt8.le_antisymm (UInt8.not_lt.1 h2) (UInt8.not_lt.1 h)
    rw [zwE a b]
    simp [e, UInt8.lt_irrefl]
theorem zwF : ∀ a b : List UInt8, Lib.compareBytes a b = 0 ↔ a = b
 | [], [] => by simp [Lib.compareBytes]
 | [], _ :: _ => by simp [Lib.compareBytes]
 | _ :: _, [] => by simp [Lib.compareBytes]
 | x :: a, y :: b => by
  rw [Lib.compareBytes]
  split
  ·rename_i h
   have : x ≠ y := fun e => by subst e; exact UInt8.lt_irrefl _ h
   simp [this]
  ·rename_i h
   split
   ·rename_i h2
    have : x ≠ y := fun e => by subst e; exact h h2
    simp [this]
   ·rename_i h2
    have e : x = y := UInt8.le_antisymm (UInt8.not_lt.1 h2) (UInt8.not_lt.1 h)
    rw [zwF a b]
    simp [e]
theorem zCH (a b : ByteArray) : zqO a b < 0 ↔ ltL a b := zwE _ _
theorem zwD (a b : ByteArray) : zqO a b = 0 ↔ a = b := (zwF _ _).trans ⟨zBg, fun h => by rw [h]⟩
theorem zgN {a b : ByteArray} (h : leS a b = false) : ltL b a := by
 unfold leS at h
 simp only [Bool.or_eq_false_iff, decide_eq_false_iff_not] at h
 refine zuY (fun h1 => ?_) h.2
 rw [(zeJ _ _).2 h1] at h
 exact absurd h.1 (by simp)
def Sk {α : Type} (f : α → ByteArray) (l : List α) : Prop := l.Pairwise fun x y => ltL (f x) (f y)
theorem ztR {α : Type} {f : α → ByteArray} {l : List α} (h : ∀ q (h : q + 1 < l.length), ltL (f l[q]) (f l[q + 1])) : Sk f l := by
 refine List.pairwise_iff_getElem.2 fun i j hi hj hij => ?_
 induction j with
 | zero => omega
 | succ j ih =>
  by_cases e : i = j
  ·subst e; exact h i hj
  ·exact zeZ (ih (by omega) (by omega)) (h j hj)
theorem ztQ {α : Type} {f : α → ByteArray} : ∀ {l m : List α}, Sk f l → Sk f m → (∀ x, x ∈ l ↔ x ∈ m) → l = m
 | [], [], _, _, _ => rfl
 | [], y :: m, _, _, h => by have := (h y).2 (List.mem_cons_self ..); cases this
 | x :: l, [], _, _, h => by have := (h x).1 (List.mem_cons_self ..); cases this
 | x :: l, y :: m, hl, hm, h => by
  obtain ⟨h1, h2⟩ := List.pairwise_cons.1 hl
  obtain ⟨h3, h4⟩ := List.pairwise_cons.1 hm
  have e : x = y := by
   rcases List.mem_cons.1 ((h x).1 (List.mem_cons_self ..)) with e | hx
   ·exact e
   rcases List.mem_cons.1 ((h y).2 (List.mem_cons_self ..)) with e | hy
   ·exact e.symm
   exact absurd (zeZ (h1 y hy) (h3 x hx)) (zba _)
  subst e
  rw [ztQ h2 h4 fun z => ?_]
  constructor
  ·intro hz
   rcases List.mem_cons.1 ((h z).1 (List.mem_cons_of_mem _ hz)) with e | hz'
   ·subst e; exact absurd (h1 z hz) (zba _)
   ·exact hz'
  ·intro hz
   rcases List.mem_cons.1 ((h z).2 (List.mem_cons_of_mem _ hz)) with e | hz'
   ·subst e; exact absurd (h3 z hz) (zba _)
   ·exact hz'
theorem zyU {α : Type} {f : α → ByteArray} {l : List α} (h : Sk f l) {x y : α} (hx : x ∈ l) (hy : y ∈ l) (e : f x = f y) : x = y := by
 obtain ⟨i, hi, rfl⟩ := List.mem_iff_getElem.1 hx
 obtain ⟨j, hj, rfl⟩ := List.mem_iff_getElem.1 hy
 have hp := List.pairwise_iff_getElem.1 h
 rcases Nat.lt_trichotomy i j with h1 | h1 | h1
 ·exact absurd (e ▸ hp i j hi hj h1) (zba _)
 ·subst h1; rfl
 ·exact absurd (e ▸ hp j i hj hi h1) (zba _)
def rmL {α : Type} (l : List α) (a : Nat) : List α := l.take a ++ l.drop (a + 1)
theorem zyZ {α : Type} (l : List α) (a : Nat) (h : a < l.length) : l = l.take a ++ l[a] :: l.drop (a + 1) := by
 rw [← List.drop_eq_getElem_cons h, List.take_append_drop]
theorem zyY {α : Type} (l : List α) (a : Nat) : (rmL l a).Sublist l := by
 unfold rmL
 conv => rhs; rw [← List.take_append_drop a l]
 have e : l.drop (a + 1) = (l.drop a).drop 1 := by rw [List.drop_drop]
 rw [e]
 exact List.Sublist.append (List.Sublist.refl _) (List.drop_sublist _ _)
theorem zDk {α : Type} {f : α → ByteArray} {l : List α} (h : Sk f l) (a : Nat) : Sk f (rmL l a) := List.Pairwise.sublist (zyY l a) h
theorem zDw {α : Type} {f : α → ByteArray} {l : List α} (h : Sk f l) (a : Nat) (ha : a < l.length) (y : α) : y ∈ rmL l a ↔ y ∈ l ∧ f y ≠ f l[a] := by
 have hs := zyZ l a ha
 constructor
 ·intro hy
  refine ⟨(zyY l a).subset hy, fun e => ?_⟩
  have h1 := h
  unfold Sk at h1
  rw [hs] at h1
  obtain ⟨_, h3, h4⟩ := List.pairwise_append.1 h1
  rcases List.mem_append.1 hy with h5 | h5
  ·exact absurd (e ▸ h4 y h5 l[a] (List.mem_cons_self ..)) (zba _)
  ·exact absurd (e ▸ (List.pairwise_cons.1 h3).1 y h5) (zba _)
 ·rintro ⟨hy, hne⟩
  rw [hs] at hy
  rcases List.mem_append.1 hy with h5 | h5
  ·exact List.mem_append_left _ h5
  ·rcases List.mem_cons.1 h5 with e | h6
   ·exact absurd (by rw [e]) hne
   ·exact List.mem_append_right _ h6
theorem znv (lt : Nat → Bool) (n : Nat) (hm : ∀ i j, i ≤ j → j < n → lt j = true → lt i = true) : ∀ k i j, i ≤ j → j ≤ n → j - i ≤ k → (∀ q, q < i → lt q = true) → (∀ q, j ≤ q → q < n → lt q = false) →
  (∀ q, q < bsR lt k i j → lt q = true) ∧ ∀ q, bsR lt k i j ≤ q → q < n → lt q = false
 | 0, i, j, h1, h2, h3, h4, h5 => by
  have : i = j := by omega
  subst this
  exact ⟨h4, h5⟩
 | k + 1, i, j, h1, h2, h3, h4, h5 => by
  rw [bsR]
  split
  ·rename_i hij
   split
   ·rename_i hl
    exact znv lt n hm k _ j (by omega) h2 (by omega) (fun q hq => hm q _ (by omega) (by omega) hl) h5
   ·rename_i hl
    refine znv lt n hm k i _ (by omega) (by omega) (by omega) h4 fun q hq hqn => ?_
    cases hh : lt q with
    | false => rfl
    | true => exact absurd (hm _ q hq hqn hh) hl
  ·rename_i hij
   have : i = j := by omega
   subst this
   exact ⟨h4, h5⟩
theorem zfx {l : List Fl} (h : Sk Fl.path l) (s : ByteArray) (q : Nat) (hq : q < l.length) : q < zby l s ↔ ltL l[q].path s := by
 have hlt : ∀ i (hi : i < l.length), (zfK l s i = true ↔ ltL l[i].path s) := fun i hi => by
  unfold zfK
  rw [List.getElem?_eq_getElem hi]
  simp only [decide_eq_true_eq]
  exact zCH _ _
 obtain ⟨h1, h2⟩ := znv (zfK l s) l.length (fun i j hij hj hh => by
  rcases Nat.lt_or_ge i j with h1 | h1
  ·exact (hlt i (by omega)).2 (zeZ (List.pairwise_iff_getElem.1 h i j (by omega) hj h1) ((hlt j hj).1 hh))
  ·have : i = j := by omega
   subst this; exact hh) l.length 0 l.length (Nat.zero_le _) (Nat.le_refl _) (Nat.le_refl _) (fun q hq => by omega) (fun q hq hqn => by omega)
 constructor
 ·intro hp; exact (hlt q hq).1 (h1 q hp)
 ·intro hp
  rcases Nat.lt_or_ge q (zby l s) with h3 | h3
  ·exact h3
  ·have := h2 q h3 hq
   rw [(hlt q hq).2 hp] at this
   cases this
theorem ziH {l : List Fl} (h : Sk Fl.path l) (s : ByteArray) : zdr l s = true ↔ ∃ x ∈ l, x.path = s := by
 constructor
 ·intro hh
  unfold zdr at hh
  split at hh
  ·rename_i x hx
   exact ⟨x, List.mem_of_getElem? hx, (zwD _ _).1 (by simpa using hh)⟩
  ·cases hh
 ·rintro ⟨x, hx, rfl⟩
  obtain ⟨i, hi, rfl⟩ := List.mem_iff_getElem.1 hx
  have e : zby l l[i].path = i := by
   have h1 : ¬ i < zby l l[i].path := fun h2 => zba _ ((zfx h _ i hi).1 h2)
   rcases Nat.lt_or_ge (zby l l[i].path) i with h2 | h2
   ·exact absurd ((zfx h _ (zby l l[i].path) (by omega)).2 (List.pairwise_iff_getElem.1 h _ i (by omega) hi h2)) (Nat.lt_irrefl _)
   ·omega
  unfold zdr
  rw [e, List.getElem?_eq_getElem hi]
  simp only [decide_eq_true_eq]
  exact (zwD _ _).2 rfl
theorem zCl {l : List Fl} {i : Nat} {x y : Fl} : y ∈ zes l i x ↔ y ∈ l ∨ y = x := by
 constructor
 ·exact zpb
 ·unfold zes
  rintro (h | h)
  ·rw [← List.take_append_drop i l] at h
   rcases List.mem_append.1 h with h | h
   ·exact List.mem_append_left _ h
   ·exact List.mem_append_right _ (List.mem_cons_of_mem _ h)
  ·exact List.mem_append_right _ (h ▸ List.mem_cons_self ..)
theorem zDC {l : List Fl} (h : Sk Fl.path l) (x : Fl) (hn : zdr l x.path = false) : Sk Fl.path (zes l (zby l x.path) x) := by
 have hne : ∀ y ∈ l, y.path ≠ x.path := fun y hy e => by rw [(ziH h _).2 ⟨y, hy, e⟩] at hn; cases hn
 unfold zes Sk
 refine List.pairwise_append.2 ⟨h.sublist (List.take_sublist _ _), List.pairwise_cons.2 ⟨fun y hy => ?_, h.sublist (List.drop_sublist _ _)⟩, fun y hy z hz => ?_⟩
 ·obtain ⟨j, hj, rfl⟩ := List.mem_iff_getElem.1 hy
  rw [List.length_drop] at hj
  rw [List.getElem_drop]
  have h1 : ¬ ltL l[zby l x.path + j].path x.path := fun h2 => by have := (zfx h x.path _ (by omega)).2 h2; omega
  exact zuY h1 (hne _ (List.getElem_mem _))
 ·obtain ⟨j, hj, rfl⟩ := List.mem_iff_getElem.1 hy
  rw [List.length_take] at hj
  have h1 : ltL (l.take (zby l x.path))[j].path x.path := by
   rw [List.getElem_take]
   exact (zfx h x.path j (by omega)).1 (by omega)
  rcases List.mem_cons.1 hz with rfl | hz
  ·exact h1
  ·obtain ⟨k, hk, rfl⟩ := List.mem_iff_getElem.1 hz
   rw [List.length_drop] at hk
   rw [List.getElem_drop, List.getElem_take]
   exact List.pairwise_iff_getElem.1 h j _ (by omega) (by omega) (by omega)
theorem zvH {l : List Fl} (h : zbW l = 0) : Sk Fl.path l := by
 unfold zbW at h
 split at h
 ·cases h
 split at h
 ·exact absurd h (by assumption)
 rename_i h1
 have h2 := zcb (Decidable.not_not.1 h1)
 refine ztR fun q hq => ?_
 have h3 := h2 (q + 1) hq
 unfold zcs at h3
 split at h3
 ·split at h3
  ·cases h3
  ·rename_i h4
   rw [Nat.add_sub_cancel, zev l _ hq, zev l q (by omega)] at h4
   refine zgN ?_
   cases hl : leS l[q + 1].path l[q].path with
   | false => rfl
   | true => exact absurd ⟨Nat.succ_pos q, hl⟩ h4
 ·cases h3
theorem zhB {m : Mg} (h : zG m = 0) : zl (zfX m.ms) m.ms.length = 0 ∧ zbW m.fs = 0 ∧ m.fs.any (fun x => zdy x.path) = false ∧ m.ts.length ≤ 200 ∧ zl (zhd m.fs m.ts) m.ts.length = 0 := by
 unfold zG at h
 split at h
 ·exact absurd h (by assumption)
 rename_i h1
 split at h
 ·exact absurd h (by assumption)
 rename_i h2
 split at h
 ·cases h
 rename_i h3
 split at h
 ·cases h
 rename_i h4
 exact ⟨Decidable.not_not.1 h1, Decidable.not_not.1 h2, by simpa using h3, by omega, h⟩
theorem zCf {m : Mg} (h : zG m = 0) : Sk Mo.label m.ms := by
 have h1 := zcb (zhB h).1
 refine ztR fun q hq => ?_
 have h3 := h1 (q + 1) hq
 unfold zfX at h3
 split at h3
 ·exact absurd h3 (by assumption)
 split at h3
 ·cases h3
 rename_i h4
 rw [Nat.add_sub_cancel, zcw m.ms _ hq, zcw m.ms q (by omega)] at h4
 refine zgN ?_
 cases hl : leS m.ms[q + 1].label m.ms[q].label with
 | false => rfl
 | true => exact absurd ⟨Nat.succ_pos q, hl⟩ h4
theorem zrd {m : Mg} (h : zG m = 0) (q : Nat) (hq : q < m.ts.length) : zdv m.ts[q] = 0 ∧ zdr m.fs m.ts[q].path = false ∧ (0 < q → leS m.ts[q].path (atC m.ts (q - 1)).path = false) := by
 have h3 := zcb (zhB h).2.2.2.2 q hq
 unfold zhd at h3
 rw [zcV m.ts q hq] at h3
 split at h3
 ·exact absurd h3 (by assumption)
 rename_i h4
 split at h3
 ·cases h3
 rename_i h5
 split at h3
 ·cases h3
 rename_i h6
 refine ⟨Decidable.not_not.1 h4, by simpa using h6, fun h0 => ?_⟩
 cases hl : leS m.ts[q].path (atC m.ts (q - 1)).path with
 | false => rfl
 | true => exact absurd ⟨h0, hl⟩ h5
theorem zhX {m : Mg} (h : zG m = 0) : Sk Tc.path m.ts := by
 refine ztR fun q hq => ?_
 have := (zrd h (q + 1) hq).2.2 (Nat.succ_pos q)
 rw [Nat.add_sub_cancel, zcV m.ts q (by omega)] at this
 exact zgN this
end
section
open Go Go.RowKit
def zBG (m : Mg) (s : Sq) (k : Nat) : Mg × Int :=
 if ¬ (zaR m s k).2 = 0 then (zek, (zaR m s k).2) else if ¬ zG (zaR m s k).1 = 0 then (zek, zG (zaR m s k).1) else ((zaR m s k).1, 0)
theorem zcQ {m : Mg} {q : Sq} : q ∈ zaG m ↔ (∃ x ∈ m.ms, q ∈ zbs x) ∨ ∃ c ∈ m.ts, (⟨c.path, 5, 0, 0⟩ : Sq) = q := by
 unfold zaG
 rw [List.mem_append, List.mem_flatMap, List.mem_map]
theorem zjN {x : Mo} {q : Sq} (h : q ∈ zbs x) : q.label = x.label ∧ ¬ q.kind = 5 := by
 unfold zbs at h
 split at h
 ·obtain ⟨d, _, h1, _, h2⟩ := ziQ h
  exact ⟨h1, by omega⟩
 ·cases h
theorem zvI {m : Mg} (h0 : zG m = 0) {c : Tc} (hc : c ∈ m.ts) : m.ts.findIdx (zaH c.path) < m.ts.length ∧ atC m.ts (m.ts.findIdx (zaH c.path)) = c := by
 obtain ⟨h1, h2⟩ := zkz (m := m) (path := c.path) (List.any_eq_true.2 ⟨c, hc, by simp [zaH]⟩)
 exact ⟨h1, zyU (zhX h0) (zwL _ _ h1) hc h2⟩
def ziG (fs : List Fl) (c : Tc) (k : Nat) : List Fl := if zgY c k = true then zes fs (zby fs c.path) ⟨c.path, zaE c k⟩ else fs
theorem zdO {m : Mg} (h0 : zG m = 0) {c : Tc} (hc : c ∈ m.ts) (k : Nat) : zaR m ⟨c.path, 5, 0, 0⟩ k = (⟨m.ms, ziG m.fs c k, rmL m.ts (m.ts.findIdx (zaH c.path))⟩, 0) := by
 obtain ⟨h1, h2⟩ := zvI h0 hc
 unfold zaR zho ziG rmL
 rw [if_pos rfl]
 simp only [h2]
theorem zgE {m : Mg} (h0 : zG m = 0) {c : Tc} (hc : c ∈ m.ts) (y : Tc) : y ∈ rmL m.ts (m.ts.findIdx (zaH c.path)) ↔ y ∈ m.ts ∧ y.path ≠ c.path := by
 obtain ⟨h1, h2⟩ := zvI h0 hc
 rw [zDw (zhX h0) _ h1, ← zcV m.ts _ h1, h2]
theorem zsy {fs : List Fl} {c : Tc} {k : Nat} {y : Fl} : y ∈ ziG fs c k ↔ y ∈ fs ∨ (zgY c k = true ∧ y = ⟨c.path, zaE c k⟩) := by
 unfold ziG
 split
 ·rename_i h; rw [zCl]; simp [h]
 ·rename_i h; simp [h]
theorem ziF {fs : List Fl} (h : Sk Fl.path fs) (c : Tc) (k : Nat) (hn : zdr fs c.path = false) : Sk Fl.path (ziG fs c k) := by
 unfold ziG
 split
 ·exact zDC h ⟨c.path, zaE c k⟩ hn
 ·exact h
theorem zoo {m : Mg} (h0 : zG m = 0) {c : Tc} (hc : c ∈ m.ts) : zdr m.fs c.path = false := by
 obtain ⟨i, hi, rfl⟩ := List.mem_iff_getElem.1 hc
 exact (zrd h0 i hi).2.1
theorem zpc {fs : List Fl} (h : Sk Fl.path fs) (c : Tc) (k : Nat) (hn : zdr fs c.path = false) {p : ByteArray} (hp : zdr fs p = false) (hne : p ≠ c.path) : zdr (ziG fs c k) p = false := by
 cases hh : zdr (ziG fs c k) p with
 | false => rfl
 | true =>
  obtain ⟨x, hx, rfl⟩ := (ziH (ziF h c k hn) p).1 hh
  rcases zsy.1 hx with h1 | ⟨_, h1⟩
  ·rw [(ziH h _).2 ⟨x, h1, rfl⟩] at hp; cases hp
  ·rw [h1] at hne; exact absurd rfl hne
theorem zya {fs : List Fl} (h : Sk Fl.path fs) (c d : Tc) (j k : Nat) (hc : zdr fs c.path = false) (hd : zdr fs d.path = false) (hne : c.path ≠ d.path) : ziG (ziG fs c j) d k = ziG (ziG fs d k) c j := by
 refine ztQ (ziF (ziF h c j hc) d k (zpc h c j hc hd hne.symm)) (ziF (ziF h d k hd) c j (zpc h d k hd hc hne)) fun x => ?_
 simp only [zsy]
 constructor
 ·rintro ((h1 | h1) | h1)
  ·exact .inl (.inl h1)
  ·exact .inr h1
  ·exact .inl (.inr h1)
 ·rintro ((h1 | h1) | h1)
  ·exact .inl (.inl h1)
  ·exact .inr h1
  ·exact .inl (.inr h1)
theorem zuW {m : Mg} (h0 : zG m = 0) {x : Mo} (hx : x ∈ m.ms) : m.ms.findIdx (zbM x.label) < m.ms.length ∧ atM m.ms (m.ms.findIdx (zbM x.label)) = x := by
 obtain ⟨h1, h2⟩ := zoZ (m := m) (label := x.label) (List.any_eq_true.2 ⟨x, hx, by simp [zbM]⟩)
 exact ⟨h1, zyU (zCf h0) (zqU _ _ h1) hx h2⟩
theorem zeL {m : Mg} (h0 : zG m = 0) {x : Mo} (hx : x ∈ m.ms) {s : Sq} (hs : s ∈ zbs x) (k : Nat) : zaR m s k = if (zdD x s k).2 = 0 then (zmj m (m.ms.findIdx (zbM x.label)) (zdD x s k).1, 0) else (zek, (zdD x s k).2) := by
 obtain ⟨h1, h2⟩ := zuW h0 hx
 obtain ⟨h3, h4⟩ := zjN hs
 unfold zaR
 rw [if_neg h4, h3, h2]
theorem zoR {x : Mo} {s : Sq} {k : Nat} (h : (zdD x s k).2 = 0) : (zdD x s k).1.label = x.label := by
 unfold zdD at h ⊢
 split
 ·rename_i h1; rw [if_pos h1] at h; exact absurd h h1
 rename_i h1; rw [if_neg h1] at h
 split
 ·rename_i h2; rw [if_pos h2] at h; exact absurd h (by simp)
 rename_i h2; rw [if_neg h2] at h
 split
 ·rename_i h3; rw [if_pos h3] at h; exact absurd h (by simp)
 rename_i h3; rw [if_neg h3] at h
 split
 ·rename_i h4; rw [if_pos h4] at h; exact absurd h h4
 ·rfl
theorem zrt {l : List Mo} {a : Nat} (ha : a < l.length) {x : Mo} (hx : x.label = l[a].label) (p : ByteArray) : (l.set a x).findIdx (zbM p) = l.findIdx (zbM p) := by
 have h1 : ∀ l : List Mo, l.findIdx (zbM p) = (l.map Mo.label).findIdx fun s => decide (s = p) := fun l => by rw [List.findIdx_map]; rfl
 rw [h1, h1, List.map_set, hx]
 congr 1
 have := List.set_getElem_self (show a < (l.map Mo.label).length by simpa using ha)
 simpa using this
theorem zhz {m : Mg} {s : Sq} (hs : s ∈ zaG m) : (∃ c ∈ m.ts, s = ⟨c.path, 5, 0, 0⟩) ∨ ∃ x ∈ m.ms, s ∈ zbs x := by
 rcases zcQ.1 hs with h | ⟨c, hc, h⟩
 ·exact .inr h
 ·exact .inl ⟨c, hc, h.symm⟩
structure Apart (m : Mg) (s t : Sq) (j k : Nat) (a b : Mg) : Prop where
 left : t ∈ zaG a
 right : s ∈ zaG b
 same : zaR a t k = zaR b s j
theorem Apart.symm {m : Mg} {s t : Sq} {j k : Nat} {a b : Mg} (h : Apart m s t j k a b) : Apart m t s k j b a := ⟨h.right, h.left, h.same.symm⟩
theorem zBj {m a b : Mg} (h0 : zG m = 0) {c d : Tc} (hc : c ∈ m.ts) (hd : d ∈ m.ts) (hne : c.path ≠ d.path) {j k : Nat} (ha : zaR m ⟨c.path, 5, 0, 0⟩ j = (a, 0)) (hb : zaR m ⟨d.path, 5, 0, 0⟩ k = (b, 0)) (h1 : zG a = 0) (h2 : zG b = 0) : Apart m ⟨c.path, 5, 0, 0⟩ ⟨d.path, 5, 0, 0⟩ j k a b := by
 rw [zdO h0 hc] at ha
 rw [zdO h0 hd] at hb
 injection ha with ha _
 injection hb with hb _
 have hda : d ∈ a.ts := by rw [← ha]; exact (zgE h0 hc d).2 ⟨hd, hne.symm⟩
 have hcb : c ∈ b.ts := by rw [← hb]; exact (zgE h0 hd c).2 ⟨hc, hne⟩
 refine ⟨zcQ.2 (.inr ⟨d, hda, rfl⟩), zcQ.2 (.inr ⟨c, hcb, rfl⟩), ?_⟩
 rw [zdO h1 hda, zdO h2 hcb]
 have e1 : a.ms = b.ms := by rw [← ha, ← hb]
 have e2 : ziG a.fs d k = ziG b.fs c j := by
  rw [← ha, ← hb]
  exact zya (zvH (zhB h0).2.1) c d j k (zoo h0 hc) (zoo h0 hd) hne
 have e3 : rmL a.ts (a.ts.findIdx (zaH d.path)) = rmL b.ts (b.ts.findIdx (zaH c.path)) := by
  refine ztQ (zDk (zhX h1) _) (zDk (zhX h2) _) fun y => ?_
  rw [zgE h1 hda, zgE h2 hcb]
  have f1 : y ∈ a.ts ↔ y ∈ m.ts ∧ y.path ≠ c.path := by rw [← ha]; exact zgE h0 hc y
  have f2 : y ∈ b.ts ↔ y ∈ m.ts ∧ y.path ≠ d.path := by rw [← hb]; exact zgE h0 hd y
  rw [f1, f2]
  constructor
  ·rintro ⟨⟨x1, x2⟩, x3⟩; exact ⟨⟨x1, x3⟩, x2⟩
  ·rintro ⟨⟨x1, x2⟩, x3⟩; exact ⟨⟨x1, x3⟩, x2⟩
 rw [e1, e2, e3]
theorem zth {m a b : Mg} (h0 : zG m = 0) {c : Tc} (hc : c ∈ m.ts) {y : Mo} (hy : y ∈ m.ms) {t : Sq} (ht : t ∈ zbs y) {j k : Nat} (ha : zaR m ⟨c.path, 5, 0, 0⟩ j = (a, 0)) (hb : zaR m t k = (b, 0)) (h1 : zG a = 0) (h2 : zG b = 0) : Apart m ⟨c.path, 5, 0, 0⟩ t j k a b := by
 rw [zdO h0 hc] at ha
 injection ha with ha _
 rw [zeL h0 hy ht] at hb
 split at hb
 rotate_left
 ·rename_i h3; injection hb with _ h4; exact absurd h4 h3
 rename_i h3
 injection hb with hb _
 have hya : y ∈ a.ms := by rw [← ha]; exact hy
 have hcb : c ∈ b.ts := by rw [← hb]; exact hc
 refine ⟨zcQ.2 (.inl ⟨y, hya, ht⟩), zcQ.2 (.inr ⟨c, hcb, rfl⟩), ?_⟩
 rw [zeL h1 hya ht, if_pos h3, zdO h2 hcb]
 rw [← ha, ← hb]
 rfl
theorem zBi {m a b : Mg} (h0 : zG m = 0) {x y : Mo} (hx : x ∈ m.ms) (hy : y ∈ m.ms) (hne : x.label ≠ y.label) {s t : Sq} (hs : s ∈ zbs x) (ht : t ∈ zbs y) {j k : Nat} (ha : zaR m s j = (a, 0)) (hb : zaR m t k = (b, 0)) (h1 : zG a = 0) (h2 : zG b = 0) : Apart m s t j k a b := by
 rw [zeL h0 hx hs] at ha
 rw [zeL h0 hy ht] at hb
 split at ha
 rotate_left
 ·rename_i h3; injection ha with _ h4; exact absurd h4 h3
 rename_i h3
 split at hb
 rotate_left
 ·rename_i h4; injection hb with _ h5; exact absurd h5 h4
 rename_i h4
 injection ha with ha _
 injection hb with hb _
 obtain ⟨i1, i2⟩ := zuW h0 hx
 obtain ⟨j1, j2⟩ := zuW h0 hy
 rw [zcw m.ms _ i1] at i2
 rw [zcw m.ms _ j1] at j2
 have hij : m.ms.findIdx (zbM x.label) ≠ m.ms.findIdx (zbM y.label) := fun e => hne (by
  have : m.ms[m.ms.findIdx (zbM x.label)] = m.ms[m.ms.findIdx (zbM y.label)] := by congr 1
  rw [i2, j2] at this
  rw [this])
 have hya : y ∈ a.ms := by
  rw [← ha]
  have : (m.ms.set (m.ms.findIdx (zbM x.label)) (zdD x s j).1)[m.ms.findIdx (zbM y.label)]'(by simpa using j1) = y := by rw [List.getElem_set_ne hij, j2]
  rw [← this]
  exact List.getElem_mem _
 have hxb : x ∈ b.ms := by
  rw [← hb]
  have : (m.ms.set (m.ms.findIdx (zbM y.label)) (zdD y t k).1)[m.ms.findIdx (zbM x.label)]'(by simpa using i1) = x := by rw [List.getElem_set_ne hij.symm, i2]
  rw [← this]
  exact List.getElem_mem _
 refine ⟨zcQ.2 (.inl ⟨y, hya, ht⟩), zcQ.2 (.inl ⟨x, hxb, hs⟩), ?_⟩
 rw [zeL h1 hya ht, if_pos h4, zeL h2 hxb hs, if_pos h3]
 have e1 : a.ms.findIdx (zbM y.label) = m.ms.findIdx (zbM y.label) := by
  rw [← ha]
  exact zrt i1 (by rw [zoR h3, i2]) _
 have e2 : b.ms.findIdx (zbM x.label) = m.ms.findIdx (zbM x.label) := by
  rw [← hb]
  exact zrt j1 (by rw [zoR h4, j2]) _
 rw [e1, e2, ← ha, ← hb]
 unfold zmj
 rw [List.set_comm _ _ hij]
theorem apart {m a b : Mg} (h0 : zG m = 0) {s t : Sq} (hs : s ∈ zaG m) (ht : t ∈ zaG m) (hne : s.label ≠ t.label) {j k : Nat} (ha : zaR m s j = (a, 0)) (hb : zaR m t k = (b, 0)) (h1 : zG a = 0) (h2 : zG b = 0) : Apart m s t j k a b := by
 rcases zhz hs with ⟨c, hc, rfl⟩ | ⟨x, hx, hxs⟩
 ·rcases zhz ht with ⟨d, hd, rfl⟩ | ⟨y, hy, hyt⟩
  ·exact zBj h0 hc hd hne ha hb h1 h2
  ·exact zth h0 hc hy hyt ha hb h1 h2
 ·rcases zhz ht with ⟨d, hd, rfl⟩ | ⟨y, hy, hyt⟩
  ·exact (zth h0 hd hx hxs hb ha h2 h1).symm
  ·exact zBi h0 hx hy (by rw [← (zjN hxs).1, ← (zjN hyt).1]; exact hne) hxs hyt ha hb h1 h2
end
section
open Go Go.RowKit
def zcL : List Fl → ByteArray → ByteArray × Bool
 | [], _ => (⟨#[]⟩, false)
 | x :: l, s => if x.path = s then (x.data, true) else zcL l s
abbrev zAi (l : List Fl) (s : ByteArray) (q : Nat) : St := ⟨[(0, .d (.sl (zW l))), (1, .d (.raw (.string s))), (6, .d (.raw (.int .i64 q)))], [], []⟩
theorem zza (l : List Fl) (s : ByteArray) (hl : l.length ≤ 1048576) : Con Tryz.prog 156 [.d (.sl (zW l)), .d (.raw (.string s))] (.tup [.d (.raw (.string (zcL l s).1)), .d (.raw (.bool (zcL l s).2))]) := by
 refine zj Tryz.func156 rfl (by decide +kernel) rfl rfl (by simp [Tryz.ntmps156]) fun A hA => ?_
 rw [Tryz.ntmps156] at hA
 refine goC 400 ?_
 simp only [go_sem, hA]
 refine ze [0, 1, 6] [] [] (fun y σ => ∃ q : Nat, q ≤ l.length ∧ y = l.length - q ∧ zcL (l.drop q) s = zcL l s ∧ σ = zAi l s q) l.length ⟨0, by omega, by omega, rfl, by simp only [go_sem, zAi]⟩ ?_
 rintro y σ ⟨q, hq, rfl, hf, rfl⟩
 refine goC 400 ?_
 by_cases hlt : q < l.length
 ·have k1 : decide ((q : Int) < (l.length : Int)) = true := decide_eq_true (by omega)
  rw [List.drop_eq_getElem_cons hlt, zcL] at hf
  by_cases hp : l[q].path = s
  ·rw [if_pos hp] at hf
   have k2 : decide (l[q].path = s) = true := decide_eq_true hp
   simp only [go_sem, hA, zAi, zh, k1, Int.toNat_natCast, zam l q hlt, k2, ← hf, Tryz.results156]
   exact ⟨⟨by omega, by omega⟩, ⟨by omega, by omega⟩⟩
  ·rw [if_neg hp] at hf
   have k2 : decide (l[q].path = s) = false := decide_eq_false hp
   simp only [go_sem, hA, zAi, zh, k1, Int.toNat_natCast, zam l q hlt, k2]
   exact ⟨⟨by omega, by omega⟩, by unfold zf; omega, l.length - (q + 1), by omega, q + 1, by omega, rfl, hf, rfl⟩
 ·have k1 : decide ((q : Int) < (l.length : Int)) = false := decide_eq_false (by omega)
  have hd : l.drop q = [] := List.drop_eq_nil_of_le (by omega)
  rw [hd, zcL] at hf
  simp only [go_sem, hA, zAi, zh, k1, ← hf, Tryz.results156]
theorem zzb (l : List Fl) (s : ByteArray) (hl : l.length ≤ 1048576) : Con Tryz.prog 90 [.d (.sl (zW l)), .d (.raw (.string s))] (.tup [.d (.raw (.string (zcL l s).1)), .d (.raw (.bool (zcL l s).2))]) := by
 refine zj Tryz.func90 rfl (by decide +kernel) rfl rfl (by simp [Tryz.ntmps90]) fun A hA => ?_
 rw [Tryz.ntmps90] at hA
 refine goC 400 ?_
 simp only [go_sem, hA]
 refine zc 400 (zza l s hl) rfl (by simp only [go_sem]) (by simp only [go_sem, hA]) ?_
 simp only [go_sem, hA, Tryz.results90]
end
section
open Go Go.RowKit
def zcf (d p : ByteArray) : Bool := decide (d.size < p.size) && (decide (p.extract 0 d.size = d) && decide (p.data.toList.getD d.size 0 = 47))
def zdV (l : List Fl) : Int :=
 if 200 < l.length then 4 else if ¬ zl (zcs l) l.length = 0 then zl (zcs l) l.length else if l.any fun x => l.any fun y => zcf x.path y.path then 7 else 0
theorem ztk (fs : List ByteArray) (s x : ByteArray) : x ∈ zeh fs s ↔ x ∈ fs ∨ x = s := by
 unfold zeh
 split
 ·rename_i h
  have := zgj.1 h
  constructor
  ·exact .inl
  ·rintro (h1 | rfl)
   ·exact h1
   ·exact this
 ·simp
theorem zAg (l : List Fl) : ∀ fs : List ByteArray, ∀ s, s ∈ l.foldl (fun fs x => zeh fs x.path) fs ↔ s ∈ fs ∨ ∃ x ∈ l, x.path = s := by
 induction l with
 | nil => intro fs s; simp
 | cons y l ih =>
  intro fs s
  rw [List.foldl_cons, ih, ztk]
  constructor
  ·rintro ((h | h) | ⟨x, hx, h⟩)
   ·exact .inl h
   ·exact .inr ⟨y, List.mem_cons_self .., h.symm⟩
   ·exact .inr ⟨x, List.mem_cons_of_mem _ hx, h⟩
  ·rintro (h | ⟨x, hx, h⟩)
   ·exact .inl (.inl h)
   ·rcases List.mem_cons.1 hx with rfl | hx
    ·exact .inl (.inr h.symm)
    ·exact .inr ⟨x, hx, h⟩
theorem zuz (l : List Fl) (s : ByteArray) : zbN (zcx l) s = true ↔ ∃ x ∈ l, x.path = s := by
 rw [zgj]
 unfold zcx
 rw [zAg]
 simp
theorem zsM (s : ByteArray) (i : Nat) (h : i ≤ s.size) : (s.extract 0 i).size = i := by
 rw [ByteArray.size_extract]; omega
theorem zom (l : List Fl) (p : ByteArray) : ztt (zcx l) p = l.any fun x => zcf x.path p := by
 rw [Bool.eq_iff_iff]
 unfold ztt zhu zcf
 simp only [List.any_eq_true, List.mem_range, Bool.and_eq_true, decide_eq_true_eq, zuz]
 constructor
 ·rintro ⟨i, hi, h1, x, hx, h2⟩
  have h3 : x.path.size = i := by rw [h2]; exact zsM p i (by omega)
  exact ⟨x, hx, by omega, by rw [h3, h2], by rw [h3]; exact h1⟩
 ·rintro ⟨x, hx, h1, h2, h3⟩
  exact ⟨x.path.size, h1, h3, x, hx, h2.symm⟩
theorem zBk {α : Type} (l : List α) (p : α → α → Bool) : (l.any fun x => l.any fun y => p x y) = l.any fun y => l.any fun x => p x y := by
 rw [Bool.eq_iff_iff]
 simp only [List.any_eq_true]
 constructor
 ·rintro ⟨x, hx, y, hy, h⟩; exact ⟨y, hy, x, hx, h⟩
 ·rintro ⟨y, hy, x, hx, h⟩; exact ⟨x, hx, y, hy, h⟩
theorem zjk (l : List Fl) : zdV l = zbW l := by
 unfold zdV zbW
 rw [zBk]
 have : (fun y : Fl => l.any fun x => zcf x.path y.path) = fun y => ztt (zcx l) y.path := funext fun y => (zom l y.path).symm
 rw [this]
end
section
open Go Go.RowKit
theorem zmo : ∀ a : List UInt8, ∃ p ps, zaC (a ++ [47]) = (p :: ps) ++ [[]]
 | [] => ⟨[], [], rfl⟩
 | c :: a => by
  obtain ⟨p, ps, h⟩ := zmo a
  rw [List.cons_append, zaC]
  split
  ·exact ⟨[], p :: ps, by rw [h]; rfl⟩
  ·rw [h]
   exact ⟨c :: p, ps, rfl⟩
theorem zst {t : ByteArray} (h : zR t.data.toList = true) : ¬ zY t = ⟨#[]⟩ := by
 intro e
 unfold zY at e
 rw [if_pos h] at e
 have h1 : (t.extract (Lib.lastIndexByte t 47 + 1).toNat t.size).size = 0 := by rw [e]; rfl
 rw [ByteArray.size_extract] at h1
 obtain ⟨h2, h3⟩ := ziA t
 have hsz : t.data.toList.length = t.size := Array.length_toList
 unfold zR at h
 simp only [Bool.and_eq_true, List.all_eq_true] at h
 have hbad : [] ∈ zaC t.data.toList := by
  by_cases h0 : t.size = 0
  ·have : t.data.toList = [] := List.eq_nil_of_length_eq_zero (by omega)
   rw [this]; exact List.mem_singleton.2 rfl
  ·have h4 : Lib.lastIndexByte t 47 = (t.size : Int) - 1 := by omega
   unfold Lib.lastIndexByte at h4
   rcases Lib.lastIdx_spec t 47 t.size with ⟨h5, _⟩ | ⟨i, h5, h6, h7, _⟩
   ·omega
   ·have h8 : i = t.size - 1 := by omega
    subst h8
    have h9 : t.data.toList.getLast? = some 47 := by
     rw [List.getLast?_eq_getElem?, hsz, Array.getElem?_toList, Array.getElem?_eq_getElem (by have : t.data.size = t.size := rfl; omega)]
     have hlt : t.size - 1 < t.data.size := by have : t.data.size = t.size := rfl; omega
     rw [getElem!_pos t.data (t.size - 1) hlt] at h7
     have : (t.data[t.size - 1]).toNat = (47 : UInt8).toNat := by
      have e47 : (47 : UInt8).toNat = 47 := rfl
      omega
     rw [UInt8.toNat_inj.1 this]
    obtain ⟨a, ha⟩ := List.getLast?_eq_some_iff.1 h9
    obtain ⟨p, ps, hp⟩ := zmo a
    rw [ha, hp]
    simp
 have := h.2 _ hbad
 cases this
theorem zti (t : ByteArray) : decide (¬ zY t = ⟨#[]⟩) = zR t.data.toList := by
 cases h : zR t.data.toList with
 | true => exact decide_eq_true (zst h)
 | false =>
  refine decide_eq_false ?_
  unfold zY
  rw [h]
  simp
def zcK (s : ByteArray) : Bool := decide (3 < s.size) && (decide (s.extract (s.size - 3) s.size = ⟨#[46, 112, 107]⟩) && zR (s.extract 0 (s.size - 3)).data.toList)
theorem zrM (s : ByteArray) : zcK s = zdy s := by
 have hsz : s.data.toList.length = s.size := Array.length_toList
 have h1 : decide (s.extract (s.size - 3) s.size = ⟨#[46, 112, 107]⟩) = decide (s.data.toList.drop (s.size - 3) = [46, 112, 107]) := by
  have : (s.extract (s.size - 3) s.size = ⟨#[46, 112, 107]⟩) ↔ s.data.toList.drop (s.size - 3) = [46, 112, 107] := by
   have h2 := zlA (s.extract (s.size - 3) s.size) [46, 112, 107]
   rw [zcj, List.take_of_length_le (by rw [List.length_drop]; omega)] at h2
   exact h2
  simp only [this]
 have h2 : Lib.hasSuffix s.data.toList [46, 112, 107] = decide (s.data.toList.drop (s.size - 3) = [46, 112, 107]) := by
  rw [Bool.eq_iff_iff, decide_eq_true_eq]
  unfold Lib.hasSuffix
  rw [List.isSuffixOf_iff_suffix, List.suffix_iff_eq_drop, hsz]
  exact eq_comm
 unfold zcK zdy
 rw [h1, h2, zti]
 cases h3 : decide (s.data.toList.drop (s.size - 3) = [46, 112, 107]) with
 | false => simp
 | true =>
  unfold Lib.trimSuffix
  rw [h2, h3, if_pos rfl, zcj, hsz]
  simp only [Bool.true_and, List.drop_zero, Nat.sub_zero, List.length_cons, List.length_nil]
  by_cases h4 : 3 < s.size
  ·rw [decide_eq_true h4, Bool.true_and]
  ·have h5 := of_decide_eq_true h3
   have h6 : s.size = 3 := by
    have := congrArg List.length h5
    simp only [List.length_drop, List.length_cons, List.length_nil] at this
    omega
   rw [h6]
   rfl
end
section
open Go Go.RowKit
end
section
open Go Go.RowKit
end
section
open Go Go.RowKit
theorem ztP (s : ByteArray) (l : List Dc) : ∀ (a : List Sq × List ByteArray) (t : ByteArray), t ∈ (l.foldl (zbI s) a).2 ↔ t ∈ a.2 ∨ ∃ d ∈ l, d.names.length = 1 ∧ zhK d = t := by
 induction l with
 | nil => intro a t; simp
 | cons d l ih =>
  intro a t
  rw [List.foldl_cons, ih]
  have h1 : t ∈ (zbI s a d).2 ↔ t ∈ a.2 ∨ (d.names.length = 1 ∧ zhK d = t) := by
   show t ∈ (if d.names.length = 1 then zeh a.2 (zhK d) else a.2) ↔ _
   split
   ·rename_i h; rw [ztk]; simp [h, eq_comm]
   ·rename_i h; simp [h]
  rw [h1]
  constructor
  ·rintro ((h | h) | ⟨e, he, h⟩)
   ·exact .inl h
   ·exact .inr ⟨d, List.mem_cons_self .., h⟩
   ·exact .inr ⟨e, List.mem_cons_of_mem _ he, h⟩
  ·rintro (h | ⟨e, he, h⟩)
   ·exact .inl (.inl h)
   ·rcases List.mem_cons.1 he with rfl | he
    ·exact .inl (.inr h)
    ·exact .inr ⟨e, he, h⟩
theorem zoL {d : Dc} (h : d.names.length = 1) : d.names = [zhK d] := by
 unfold zhK
 match hd : d.names, h with
 | [s], _ => rfl
theorem zAx (x : Mo) (n : Nat) (d : Dc) : (decide (d.names.length = 1) && zbN (zD x n).2 (zhK d)) = (x.decls.take n).any fun e => decide (d.names.length = 1) && decide (e.names = d.names) := by
 rw [Bool.eq_iff_iff]
 simp only [Bool.and_eq_true, decide_eq_true_eq, List.any_eq_true, zgj]
 unfold zD
 rw [ztP]
 constructor
 ·rintro ⟨h1, h2 | ⟨e, he, h3, h4⟩⟩
  ·cases h2
  ·exact ⟨e, he, h1, by rw [zoL h3, h4, ← zoL h1]⟩
 ·rintro ⟨e, he, h1, h2⟩
  exact ⟨h1, .inr ⟨e, he, by rw [h2]; exact h1, by unfold zhK; rw [h2]⟩⟩
end
section
open Go Go.RowKit
end
section
open Go Go.RowKit
theorem zyT (s : ByteArray) : spL s = zbF s.data.toList := by
 have hw : ([⟨s, ⟨#[]⟩⟩] : List Fl).any (fun x => ztt (zcx [⟨s, ⟨#[]⟩⟩]) x.path) = false := by
  rw [List.any_eq_false]
  intro x hx
  rw [List.mem_singleton.1 hx, zom]
  simp [zcf]
 have hf : zl (zcs [⟨s, ⟨#[]⟩⟩]) ([⟨s, ⟨#[]⟩⟩] : List Fl).length = if zbF s.data.toList = true then 0 else 6 := by
  show (if zl (zcs [⟨s, ⟨#[]⟩⟩]) 0 = 0 then zcs [⟨s, ⟨#[]⟩⟩] 0 else _) = _
  rw [zl, if_pos rfl]
  unfold zcs
  rw [zev _ _ (by simp)]
  simp only [List.getElem_cons_zero]
  by_cases h : zbF s.data.toList = true
  ·rw [if_pos h, if_pos h, if_neg (by omega)]
  ·rw [if_neg h, if_neg h]
 unfold spL zbW
 rw [hf, hw]
 by_cases h : zbF s.data.toList = true
 ·rw [if_pos h, h]; rfl
 ·rw [if_neg h, Bool.eq_false_iff.2 h]; rfl
def zft (x : Tc) : Int :=
 if zbF x.path.data.toList = false then 6 else if zcK x.path = true then 9 else
  if (!x.inB && neS x.base) || (!x.inL && neS x.left) || (!x.inR && neS x.right) then 1 else 0
theorem zxk (x : Tc) : zft x = zdv x := by unfold zft zdv; rw [zyT, zrM]
def zfu (fs : List Fl) (l : List Tc) (q : Nat) : Int := if ¬ zft (atC l q) = 0 then zft (atC l q) else if 0 < q ∧ leS (atC l q).path (atC l (q - 1)).path then 10 else if (zcL fs (atC l q).path).2 then 7 else 0
theorem zpf : ∀ (l : List Fl) (s : ByteArray), (zcL l s).2 = true ↔ ∃ x ∈ l, x.path = s
 | [], s => by simp [zcL]
 | x :: l, s => by
  rw [zcL]
  split
  ·rename_i h; simp [h]
  ·rename_i h
   rw [zpf l s]
   simp [h]
theorem zvq {l : List Fl} (h : Sk Fl.path l) (s : ByteArray) : (zcL l s).2 = zdr l s := by
 rw [Bool.eq_iff_iff, zpf, ziH h]
def zuj (m : Mg) : Int :=
 if ¬ zl (zfX m.ms) m.ms.length = 0 then zl (zfX m.ms) m.ms.length else if ¬ zdV m.fs = 0 then zdV m.fs else if m.fs.any (fun x => zcK x.path) then 9 else
  if 200 < m.ts.length then 4 else zl (zfu m.fs m.ts) m.ts.length
theorem zxl (m : Mg) : zuj m = zG m := by
 unfold zuj zG
 rw [zjk]
 by_cases h1 : ¬ zl (zfX m.ms) m.ms.length = 0
 ·rw [if_pos h1, if_pos h1]
 rw [if_neg h1, if_neg h1]
 by_cases h2 : ¬ zbW m.fs = 0
 ·rw [if_pos h2, if_pos h2]
 rw [if_neg h2, if_neg h2]
 have hsk := zvH (Decidable.not_not.1 h2)
 have e1 : (fun x : Fl => zcK x.path) = fun x => zdy x.path := funext fun x => zrM x.path
 have e2 : zl (zfu m.fs m.ts) m.ts.length = zl (zhd m.fs m.ts) m.ts.length := ziM _ fun i _ => by
  unfold zfu zhd
  rw [zxk, zvq hsk]
 rw [e1, e2]
end
section
open Go Go.RowKit
theorem zsU : ∀ {l : List UInt8}, (∀ j, j < l.length → ¬ l.getD j 0 = 47) → Lib.indexByte l 47 = -1
 | [], _ => rfl
 | c :: r, h => by
  have h0 : ¬ c = 47 := h 0 (by simp)
  have ih := zsU (l := r) fun j hj => h (j + 1) (by simpa using hj)
  unfold Lib.indexByte
  rw [if_neg (by simpa using h0), ih]
  rfl
theorem zsT : ∀ {l : List UInt8} {q : Nat}, q < l.length → (∀ j, j < q → ¬ l.getD j 0 = 47) → l.getD q 0 = 47 → Lib.indexByte l 47 = (q : Int)
 | [], q, hq, _, _ => by simp at hq
 | c :: r, 0, _, _, h1 => by
  have h0 : c = 47 := h1
  unfold Lib.indexByte
  rw [if_pos (by simpa using h0)]
  rfl
 | c :: r, q + 1, hq, h, h1 => by
  have h0 : ¬ c = 47 := h 0 (by omega)
  have ih := zsT (l := r) (q := q) (by simpa using hq) (fun j hj => h (j + 1) (by omega)) h1
  unfold Lib.indexByte
  rw [if_neg (by simpa using h0), ih, if_neg (by simp)]
  simp
def zhQ (s : ByteArray) : ByteArray × ByteArray × Bool :=
 if 0 ≤ Lib.indexByte s.data.toList 47 then (s.extract 0 (Lib.indexByte s.data.toList 47).toNat, s.extract ((Lib.indexByte s.data.toList 47).toNat + 1) s.size, true) else (s, ⟨#[]⟩, false)
def zjQ (l : List UInt8) : Bool := (zaC l).all zan
theorem zvE (s : ByteArray) : zjQ s.data.toList = (zan (zhQ s).1.data.toList && (if (zhQ s).2.2 = true then zjQ (zhQ s).2.1.data.toList else true)) := by
 unfold zhQ zjQ
 have hg := Lib.indexByte_ge s.data.toList 47
 by_cases h : 0 ≤ Lib.indexByte s.data.toList 47
 ·obtain ⟨i, hi⟩ : ∃ i : Nat, Lib.indexByte s.data.toList 47 = i := ⟨_, (Int.toNat_of_nonneg h).symm⟩
  obtain ⟨h1, h2⟩ := zeo hi
  rw [if_pos h, h2, hi]
  simp only [Int.toNat_natCast, List.all_cons, if_true, zgq]
  rw [zcj]
  simp only [List.drop_zero, Nat.sub_zero]
 ·rw [if_neg h, zgc (by omega)]
  simp
theorem zCB {s : ByteArray} (h : (zhQ s).2.2 = true) : (zhQ s).2.1.size < s.size := by
 unfold zhQ at h ⊢
 split
 ·rename_i h0
  obtain ⟨i, hi⟩ : ∃ i : Nat, Lib.indexByte s.data.toList 47 = i := ⟨_, (Int.toNat_of_nonneg h0).symm⟩
  have h1 := (zeo hi).1
  have hsz : s.data.toList.length = s.size := by simp
  rw [hi]
  simp only [Int.toNat_natCast, ByteArray.size_extract]
  omega
 ·rename_i h0
  rw [if_neg h0] at h; cases h
theorem zqv (a b : ByteArray) : leS a b = !ltS b a := by
 cases h : leS a b with
 | false =>
  have := (ziz b a).2 (zgN h)
  rw [this]; rfl
 | true =>
  cases h2 : ltS b a with
  | false => rfl
  | true =>
   have h3 := (ziz b a).1 h2
   unfold leS at h
   rcases Bool.or_eq_true_iff.1 h with h4 | h4
   ·exact absurd (zeZ h3 ((ziz a b).1 h4)) (zba _)
   ·have := of_decide_eq_true h4
    subst this
    exact absurd h3 (zba _)
theorem znB (p : Ex → Bool) (l : List Ex) (q : Nat) (h : q < l.length) : zdn p (l.take (q + 1)) = (zdn p (l.take q) || zcI p l[q]) := by
 rw [List.take_succ_eq_append_getElem h, zew]
 simp [zdn]
theorem zwM (p : Ex → Bool) : ∀ (l : List Ex) (q : Nat) (h : q < l.length), zcI p l[q] = true → zdn p l = true
 | x :: xs, 0, _, he => by simp only [List.getElem_cons_zero] at he; simp [zdn, he]
 | x :: xs, q + 1, h, he => by simp only [List.getElem_cons_succ] at he; simp [zdn, zwM p xs q (by simpa using h) he]
def zjc (c : Tc) (k : Nat) : Bool := !zgY c k && neS (zaE c k)
theorem zBf (c : Tc) : ((!c.inB && neS c.base) || (!c.inL && neS c.left) || (!c.inR && neS c.right)) = (zjc c 0 || zjc c 1 || zjc c 2) := by
 unfold zjc zgY zaE zeS
 simp only [if_true, if_neg (show ¬ (1 : Nat) = 0 by decide), if_neg (show ¬ (2 : Nat) = 0 by decide), if_neg (show ¬ (2 : Nat) = 1 by decide)]
 cases (!c.inB && neS c.base) <;> cases (!c.inL && neS c.left) <;> rfl
end
end Go.Proofs.YtpnjjmcimjlfkaaGreatDoor
