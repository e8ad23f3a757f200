/- Texts of this proof, part 11: what the proof uses of them. -/
import Derived.Test.YtpnjjmcimjlfkaaGreatDoorCaj
import Derived.Test.YtpnjjmcimjlfkaaGreatDoorCah
import Derived.RangeFuncLeaves
import Derived.RangeFuncCalls
import Derived.Test.YtpnjjmcimjlfkaaGreatDoorCag
set_option maxRecDepth 100000
set_option maxHeartbeats 64000000
namespace Go.Proofs.YtpnjjmcimjlfkaaGreatDoor
section
open Go.RowKit
mutual
def zaj : Ex → Int
 | .mk k n m i d s => if zaJ k n m i d s.length = 0 then zac s else zaJ k n m i d s.length
def zac : List Ex → Int
 | [] => 0
 | e :: es => if zaj e = 0 then zac es else zaj e
end
theorem zA {k : Int} {nm mr : ByteArray} {it d c : Int} {sub : List Ex} (h : zaJ k nm mr it d sub.length = c) (hc : ¬ c = 0) : zaj (.mk k nm mr it d sub) = c := by rw [zaj, h, if_neg hc]
theorem zkH {k : Int} {nm mr : ByteArray} {it d : Int} {sub : List Ex} (h : zaJ k nm mr it d sub.length = 0) : zaj (.mk k nm mr it d sub) = zac sub := by rw [zaj, if_pos h]
theorem zef : ∀ a b : List Ex, zac (a ++ b) = if zac a = 0 then zac b else zac a
 | [], b => by simp [zac]
 | e :: es, b => by
  simp only [zac, List.cons_append, zef es b]
  by_cases h : zaj e = 0 <;> simp [h]
theorem zeu (l : List Ex) (j : Nat) (h : j < l.length) (h0 : zac (l.take j) = 0) : zac (l.take (j + 1)) = zaj l[j] := by
 rw [List.take_succ_eq_append_getElem h, zef, if_pos h0]
 simp only [zac]; split <;> simp_all
theorem ztc {l : List Ex} {j : Nat} (h : j < l.length) (h0 : zac (l.take j) = 0) (he : ¬ zaj l[j] = 0) : zac l = zaj l[j] := by
 have h1 := zef (l.take (j + 1)) (l.drop (j + 1))
 rw [List.take_append_drop, zeu l j h h0, if_neg he] at h1
 exact h1
theorem zwk {k : Int} {nn nu ns : Nat} (h : zap k = some (nn, nu, ns)) (hn : ¬ nn = 2) : (k == 13) = false := by
 rcases zcg h with ⟨e, h2⟩ | ⟨e, h2⟩ | ⟨e, h2⟩ | ⟨e, h2⟩ | ⟨e, h2⟩ | ⟨e, h2⟩ | ⟨e, h2⟩ | ⟨e, h2⟩ | ⟨e, h2⟩ | ⟨e, h2⟩ | ⟨e, h2⟩ | ⟨e, h2⟩ | ⟨e, h2⟩ | ⟨e, h2⟩ | ⟨e, h2⟩ <;> subst e <;> first | decide | (cases h2; exact absurd rfl hn)
theorem zzF {k : Int} {nm mr : ByteArray} {b0 b1 : Bool} (h : zu k nm mr b0 b1 = false) : zg k nm mr b0 b1 = 6 := by simp [zg, h]
theorem zzE {nm : ByteArray} {b0 b1 : Bool} (h : zu 13 nm nm b0 b1 = true) : zg 13 nm nm b0 b1 = 7 := by simp [zg, h]
theorem zDz {k : Int} {nm mr : ByteArray} {b0 b1 : Bool} (h : zu k nm mr b0 b1 = true) (hn : ¬ (k = 13 ∧ nm = mr)) : zg k nm mr b0 b1 = 0 := by simp [zg, h]; exact fun a b => absurd ⟨a, b⟩ hn
def zBp (w0 : World) (sub : List Ex) (i : Value) (wr : World) : Prop := ∃ j : Nat, j ≤ sub.length ∧ i = .int .i64 j ∧ zac (sub.take j) = 0 ∧ Below w0.heap.size w0 wr
theorem zrs {k : Int} {nn nu ns : Nat} (h : zap k = some (nn, nu, ns)) : ∃ b0 b1 b2 b3 : Bool, decide (1 ≤ nn) = b0 ∧ decide (2 ≤ nn) = b1 ∧ decide (1 ≤ nu) = b2 ∧ decide (2 ≤ nu) = b3 ∧ ((nn = 0 ∧ nu = 1 ∧ b0 = false ∧ b1 = false ∧ b2 = true ∧ b3 = false) ∨ (nn = 1 ∧ nu = 0 ∧ b0 = true ∧ b1 = false ∧ b2 = false ∧ b3 = false) ∨ (nn = 2 ∧ nu = 0 ∧ b0 = true ∧ b1 = true ∧ b2 = false ∧ b3 = false) ∨ (nn = 1 ∧ nu = 1 ∧ b0 = true ∧ b1 = false ∧ b2 = true ∧ b3 = false) ∨ (nn = 0 ∧ nu = 0 ∧ b0 = false ∧ b1 = false ∧ b2 = false ∧ b3 = false) ∨ (nn = 0 ∧ nu = 2 ∧ b0 = false ∧ b1 = false ∧ b2 = true ∧ b3 = true)) := by
 rcases zkd h with ⟨rfl, rfl⟩ | ⟨rfl, rfl⟩ | ⟨rfl, rfl⟩ | ⟨rfl, rfl⟩ | ⟨rfl, rfl⟩ | ⟨rfl, rfl⟩ <;> exact ⟨_, _, _, _, rfl, rfl, rfl, rfl, by decide⟩
theorem zAD {k : Int} {nm mr : ByteArray} {it d : Int} {len nn nu ns : Nat} {b0 b1 : Bool} (h : zap k = some (nn, nu, ns)) (ha : zF nn nu ns nm mr it d len = true) (h0 : b0 = decide (1 ≤ nn)) (h1 : b1 = decide (2 ≤ nn)) (hn : zu k nm mr b0 b1 = false) : zaJ k nm mr it d len = 6 := by
 subst h0; subst h1
 exact (zcG h ha (by rw [zzF hn]; decide)).trans (zzF hn)
theorem zAC {nm : ByteArray} {it d : Int} {len nn nu ns : Nat} {b0 b1 : Bool} (h : zap 13 = some (nn, nu, ns)) (ha : zF nn nu ns nm nm it d len = true) (h0 : b0 = decide (1 ≤ nn)) (h1 : b1 = decide (2 ≤ nn)) (hn : zu 13 nm nm b0 b1 = true) : zaJ 13 nm nm it d len = 7 := by
 subst h0; subst h1
 exact (zcG h ha (by rw [zzE hn]; decide)).trans (zzE hn)
theorem zfk {k : Int} {nm mr : ByteArray} {it d : Int} {len nn nu ns : Nat} {b0 b1 : Bool} (h : zap k = some (nn, nu, ns)) (ha : zF nn nu ns nm mr it d len = true) (h0 : b0 = decide (1 ≤ nn)) (h1 : b1 = decide (2 ≤ nn)) (hn : zu k nm mr b0 b1 = true) (hk : ¬ (k = 13 ∧ nm = mr)) : zaJ k nm mr it d len = zaT k it d := by
 subst h0; subst h1
 exact zdK h ha (zDz hn hk)
theorem zxu (k : Int) (nm mr : ByteArray) (it d : Int) (sub : List Ex) (sv : Value) (w : World) (hs : zas w w.heap.size sub sv) (hsh : zap k = none) :
  Calls Tryz.prog 267 #[.agg #[.int .i64 k, .string nm, .string mr, .int .i64 it, .int .i64 d, sv]] w fun e w' => e = .returned (.int .i64 (zaj (.mk k nm mr it d sub))) ∧ Below w.heap.size w w' := by
 obtain ⟨p, cap, rfl, hcap, _⟩ := zaO hs
 have HS := Lib.hid hs
 clear hs
 have HSH := Lib.hid (fun W => zrA k W hsh)
 have HE := Lib.hid (zA (nm := nm) (mr := mr) (it := it) (d := d) (sub := sub) (zgu hsh) (by decide))
 obtain ⟨w1, hw1, hX⟩ := zct w #[.int .i64 k, .string nm, .string mr, .int .i64 it, .int .i64 d, .slice p sub.length cap] 105
 have HW := Lib.hid hw1
 have HX := Lib.hid hX
 clear hX hw1 hsh
 go_enter Tryz.func267, Tryz.ntmps267
 go_wp2_with fail
 rw [HW.out]
 refine (HSH.out _).mono ?_
 rintro e ws ⟨rfl, hbs⟩
 obtain ⟨c0, c1, c2, c3, c4, c5⟩ := zdt HX.out hbs
 have hl1 : w.heap.size < ws.heap.size := by have := HX.out.size; have := hbs.size; omega
 have hbw : Below w.heap.size w ws := HX.out.below.trans (hbs.mono HX.out.below.size)
 clear hbs
 go_wp2_with fail
 go_ret
 exact ⟨zd (a := 9) HE.out.symm, hbw.alloc (by first | omega | (simp; done) | (simp; omega)) _⟩
theorem zuo (N : Nat) (ih : ∀ (k : Int) (nm mr : ByteArray) (it d : Int) (sub : List Ex) (sv : Value) (w : World), nodesL sub < N → zas w w.heap.size sub sv → Calls Tryz.prog 267 #[.agg #[.int .i64 k, .string nm, .string mr, .int .i64 it, .int .i64 d, sv]] w fun e w' => e = .returned (.int .i64 (zaj (.mk k nm mr it d sub))) ∧ Below w.heap.size w w')
  (k : Int) (nn nu ns : Nat) (nm mr : ByteArray) (it d : Int) (sub : List Ex) (sv : Value) (w : World) (hN : nodesL sub < N + 1) (hm : nodesL sub ≤ 1099511627776) (hs : zas w w.heap.size sub sv) (hsh : zap k = some (nn, nu, ns)) :
  Calls Tryz.prog 267 #[.agg #[.int .i64 k, .string nm, .string mr, .int .i64 it, .int .i64 d, sv]] w fun e w' => e = .returned (.int .i64 (zaj (.mk k nm mr it d sub))) ∧ Below w.heap.size w w' := by
 obtain ⟨p, cap, rfl, hcap, _⟩ := zaO hs
 have HS := Lib.hid hs
 clear hs
 have hl := zI sub
 obtain ⟨b0, b1, b2, b3, h0, h1, h2, h3, hb⟩ := zrs hsh
 have HSH : Hid (∀ W : World, Calls Tryz.prog 302 #[.int .i64 k] W fun e w' => e = .returned (.tuple #[.agg #[.bool b0, .bool b1, .bool b2, .bool b3, .int .i64 ns], .bool true]) ∧ Below W.heap.size W w') := Lib.hid (fun W => by have := zpN k nn nu ns W hsh; rw [h0, h1, h2, h3] at this; exact this)
 obtain ⟨nb, hnb⟩ : ∃ nb, zu k nm mr b0 b1 = nb := ⟨_, rfl⟩
 obtain ⟨rg, hrg⟩ : ∃ rg, zM k it d = rg := ⟨_, rfl⟩
 have HNB : Hid (∀ W : World, Calls Tryz.prog 303 #[.agg #[.int .i64 k, .string nm, .string mr, .int .i64 it, .int .i64 d, .slice p sub.length cap], .agg #[.bool b0, .bool b1, .bool b2, .bool b3, .int .i64 ns]] W fun e w' => e = .returned (.bool nb) ∧ Below W.heap.size W w') := Lib.hid (fun W => by have := zul k nm mr it d (.slice p sub.length cap) b0 b1 b2 b3 ns W; rw [hnb] at this; exact this)
 have HRG : Hid (∀ W : World, Calls Tryz.prog 304 #[.agg #[.int .i64 k, .string nm, .string mr, .int .i64 it, .int .i64 d, .slice p sub.length cap]] W fun e w' => e = .returned (.bool rg) ∧ Below W.heap.size W w') := Lib.hid (fun W => by have := zrH k nm mr it d (.slice p sub.length cap) W; rw [hrg] at this; exact this)
 have HIH := Lib.hid ih
 have HK := Lib.hid hsh
 have HV := Lib.hid hnb
 have HG := Lib.hid hrg
 have HF := Lib.hid hb
 clear ih h0 h1 h2 h3 hnb hrg hb
 obtain ⟨w1, hw1, hX⟩ := zct w #[.int .i64 k, .string nm, .string mr, .int .i64 it, .int .i64 d, .slice p sub.length cap] 105
 have HW := Lib.hid hw1
 have HX := Lib.hid hX
 clear hX hw1 hsh
 go_enter Tryz.func267, Tryz.ntmps267
 go_wp2_with fail
 rw [HW.out]
 refine (HSH.out _).mono ?_
 rintro e ws ⟨rfl, hbs⟩
 obtain ⟨c0, c1, c2, c3, c4, c5⟩ := zdt HX.out hbs
 have hl1 : w.heap.size < ws.heap.size := by have := HX.out.size; have := hbs.size; omega
 have hbw : Below w.heap.size w ws := HX.out.below.trans (hbs.mono HX.out.below.size)
 clear hbs
 rcases HF.out with ⟨rfl, rfl, rfl, rfl, rfl, rfl⟩ | ⟨rfl, rfl, rfl, rfl, rfl, rfl⟩ | ⟨rfl, rfl, rfl, rfl, rfl, rfl⟩ | ⟨rfl, rfl, rfl, rfl, rfl, rfl⟩ | ⟨rfl, rfl, rfl, rfl, rfl, rfl⟩ | ⟨rfl, rfl, rfl, rfl, rfl, rfl⟩
 case' inl =>
  by_cases hz : nm.size = 0
  rotate_left
  ·have hz1 := zT hz
   have HZ := Lib.hid hz
   clear hz
   go_wp2_with fail
   go_ret
   exact ⟨zd (a := 1) (zA (zk HK.out (by simp [zF, HZ.out])) (by decide)).symm, hbw.alloc (by first | omega | (simp; done) | (simp; omega)) _⟩
  obtain rfl := zaf hz
  clear hz
  by_cases hz : mr.size = 0
  rotate_left
  ·have hz1 := zT hz
   have HZ := Lib.hid hz
   clear hz
   go_wp2_with fail
   go_ret
   exact ⟨zd (a := 1) (zA (zk HK.out (by simp [zF, HZ.out])) (by decide)).symm, hbw.alloc (by first | omega | (simp; done) | (simp; omega)) _⟩
  obtain rfl := zaf hz
  clear hz
  by_cases hz : d = 0
  rotate_left
  ·have hz1 : (d != 0) = true := by simpa using hz
   have HZ := Lib.hid hz
   clear hz
   go_wp2_with fail
   go_ret
   exact ⟨zd (a := 1) (zA (zk HK.out (by simp [zF, HZ.out])) (by decide)).symm, hbw.alloc (by first | omega | (simp; done) | (simp; omega)) _⟩
  subst hz
  by_cases hz : sub.length = ns
  rotate_left
  ·have hz1 : ((sub.length : Int) != (ns : Int)) = true := by simp; omega
   have hz2 : (sub.length != ns) = true := by simpa using hz
   have HZ := Lib.hid hz
   clear hz
   go_wp2_with fail
   go_ret
   exact ⟨zd (a := 1) (zA (zk HK.out (by simp [zF, HZ.out])) (by decide)).symm, hbw.alloc (by first | omega | (simp; done) | (simp; omega)) _⟩
  subst hz
 case' inr.inl =>
  by_cases hz : mr.size = 0
  rotate_left
  ·have hz1 := zT hz
   have HZ := Lib.hid hz
   clear hz
   go_wp2_with fail
   go_ret
   exact ⟨zd (a := 1) (zA (zk HK.out (by simp [zF, HZ.out])) (by decide)).symm, hbw.alloc (by first | omega | (simp; done) | (simp; omega)) _⟩
  obtain rfl := zaf hz
  clear hz
  by_cases hz : it = 0
  rotate_left
  ·have hz1 : (it != 0) = true := by simpa using hz
   have HZ := Lib.hid hz
   clear hz
   go_wp2_with fail
   go_ret
   exact ⟨zd (a := 1) (zA (zk HK.out (by simp [zF, HZ.out])) (by decide)).symm, hbw.alloc (by first | omega | (simp; done) | (simp; omega)) _⟩
  subst hz
  by_cases hz : d = 0
  rotate_left
  ·have hz1 : (d != 0) = true := by simpa using hz
   have HZ := Lib.hid hz
   clear hz
   go_wp2_with fail
   go_ret
   exact ⟨zd (a := 1) (zA (zk HK.out (by simp [zF, HZ.out])) (by decide)).symm, hbw.alloc (by first | omega | (simp; done) | (simp; omega)) _⟩
  subst hz
  by_cases hz : sub.length = ns
  rotate_left
  ·have hz1 : ((sub.length : Int) != (ns : Int)) = true := by simp; omega
   have hz2 : (sub.length != ns) = true := by simpa using hz
   have HZ := Lib.hid hz
   clear hz
   go_wp2_with fail
   go_ret
   exact ⟨zd (a := 1) (zA (zk HK.out (by simp [zF, HZ.out])) (by decide)).symm, hbw.alloc (by first | omega | (simp; done) | (simp; omega)) _⟩
  subst hz
 case' inr.inr.inl =>
  by_cases hz : it = 0
  rotate_left
  ·have hz1 : (it != 0) = true := by simpa using hz
   have HZ := Lib.hid hz
   clear hz
   go_wp2_with fail
   go_ret
   exact ⟨zd (a := 1) (zA (zk HK.out (by simp [zF, HZ.out])) (by decide)).symm, hbw.alloc (by first | omega | (simp; done) | (simp; omega)) _⟩
  subst hz
  by_cases hz : d = 0
  rotate_left
  ·have hz1 : (d != 0) = true := by simpa using hz
   have HZ := Lib.hid hz
   clear hz
   go_wp2_with fail
   go_ret
   exact ⟨zd (a := 1) (zA (zk HK.out (by simp [zF, HZ.out])) (by decide)).symm, hbw.alloc (by first | omega | (simp; done) | (simp; omega)) _⟩
  subst hz
  by_cases hz : sub.length = ns
  rotate_left
  ·have hz1 : ((sub.length : Int) != (ns : Int)) = true := by simp; omega
   have hz2 : (sub.length != ns) = true := by simpa using hz
   have HZ := Lib.hid hz
   clear hz
   go_wp2_with fail
   go_ret
   exact ⟨zd (a := 1) (zA (zk HK.out (by simp [zF, HZ.out])) (by decide)).symm, hbw.alloc (by first | omega | (simp; done) | (simp; omega)) _⟩
  subst hz
 case' inr.inr.inr.inl =>
  by_cases hz : mr.size = 0
  rotate_left
  ·have hz1 := zT hz
   have HZ := Lib.hid hz
   clear hz
   go_wp2_with fail
   go_ret
   exact ⟨zd (a := 1) (zA (zk HK.out (by simp [zF, HZ.out])) (by decide)).symm, hbw.alloc (by first | omega | (simp; done) | (simp; omega)) _⟩
  obtain rfl := zaf hz
  clear hz
  by_cases hz : d = 0
  rotate_left
  ·have hz1 : (d != 0) = true := by simpa using hz
   have HZ := Lib.hid hz
   clear hz
   go_wp2_with fail
   go_ret
   exact ⟨zd (a := 1) (zA (zk HK.out (by simp [zF, HZ.out])) (by decide)).symm, hbw.alloc (by first | omega | (simp; done) | (simp; omega)) _⟩
  subst hz
  by_cases hz : sub.length = ns
  rotate_left
  ·have hz1 : ((sub.length : Int) != (ns : Int)) = true := by simp; omega
   have hz2 : (sub.length != ns) = true := by simpa using hz
   have HZ := Lib.hid hz
   clear hz
   go_wp2_with fail
   go_ret
   exact ⟨zd (a := 1) (zA (zk HK.out (by simp [zF, HZ.out])) (by decide)).symm, hbw.alloc (by first | omega | (simp; done) | (simp; omega)) _⟩
  subst hz
 case' inr.inr.inr.inr.inl =>
  by_cases hz : nm.size = 0
  rotate_left
  ·have hz1 := zT hz
   have HZ := Lib.hid hz
   clear hz
   go_wp2_with fail
   go_ret
   exact ⟨zd (a := 1) (zA (zk HK.out (by simp [zF, HZ.out])) (by decide)).symm, hbw.alloc (by first | omega | (simp; done) | (simp; omega)) _⟩
  obtain rfl := zaf hz
  clear hz
  by_cases hz : mr.size = 0
  rotate_left
  ·have hz1 := zT hz
   have HZ := Lib.hid hz
   clear hz
   go_wp2_with fail
   go_ret
   exact ⟨zd (a := 1) (zA (zk HK.out (by simp [zF, HZ.out])) (by decide)).symm, hbw.alloc (by first | omega | (simp; done) | (simp; omega)) _⟩
  obtain rfl := zaf hz
  clear hz
  by_cases hz : it = 0
  rotate_left
  ·have hz1 : (it != 0) = true := by simpa using hz
   have HZ := Lib.hid hz
   clear hz
   go_wp2_with fail
   go_ret
   exact ⟨zd (a := 1) (zA (zk HK.out (by simp [zF, HZ.out])) (by decide)).symm, hbw.alloc (by first | omega | (simp; done) | (simp; omega)) _⟩
  subst hz
  by_cases hz : d = 0
  rotate_left
  ·have hz1 : (d != 0) = true := by simpa using hz
   have HZ := Lib.hid hz
   clear hz
   go_wp2_with fail
   go_ret
   exact ⟨zd (a := 1) (zA (zk HK.out (by simp [zF, HZ.out])) (by decide)).symm, hbw.alloc (by first | omega | (simp; done) | (simp; omega)) _⟩
  subst hz
  by_cases hz : sub.length = ns
  rotate_left
  ·have hz1 : ((sub.length : Int) != (ns : Int)) = true := by simp; omega
   have hz2 : (sub.length != ns) = true := by simpa using hz
   have HZ := Lib.hid hz
   clear hz
   go_wp2_with fail
   go_ret
   exact ⟨zd (a := 1) (zA (zk HK.out (by simp [zF, HZ.out])) (by decide)).symm, hbw.alloc (by first | omega | (simp; done) | (simp; omega)) _⟩
  subst hz
 case' inr.inr.inr.inr.inr =>
  by_cases hz : nm.size = 0
  rotate_left
  ·have hz1 := zT hz
   have HZ := Lib.hid hz
   clear hz
   go_wp2_with fail
   go_ret
   exact ⟨zd (a := 1) (zA (zk HK.out (by simp [zF, HZ.out])) (by decide)).symm, hbw.alloc (by first | omega | (simp; done) | (simp; omega)) _⟩
  obtain rfl := zaf hz
  clear hz
  by_cases hz : mr.size = 0
  rotate_left
  ·have hz1 := zT hz
   have HZ := Lib.hid hz
   clear hz
   go_wp2_with fail
   go_ret
   exact ⟨zd (a := 1) (zA (zk HK.out (by simp [zF, HZ.out])) (by decide)).symm, hbw.alloc (by first | omega | (simp; done) | (simp; omega)) _⟩
  obtain rfl := zaf hz
  clear hz
  by_cases hz : sub.length = ns
  rotate_left
  ·have hz1 : ((sub.length : Int) != (ns : Int)) = true := by simp; omega
   have hz2 : (sub.length != ns) = true := by simpa using hz
   have HZ := Lib.hid hz
   clear hz
   go_wp2_with fail
   go_ret
   exact ⟨zd (a := 1) (zA (zk HK.out (by simp [zF, HZ.out])) (by decide)).symm, hbw.alloc (by first | omega | (simp; done) | (simp; omega)) _⟩
  subst hz
 all_goals
  cases nb
  ·go_wp2_with (first | (go_at_call 303; refine (HNB.out _).mono ?_; rintro e wn ⟨rfl, hbn⟩; obtain ⟨hcn, hfn⟩ := bcellE hbn; have hln : w.heap.size < ws.heap.size + 1 := (by omega); have hln2 : w.heap.size < wn.heap.size := by (have hzz := hbn.size; simp at hzz; omega)))
   go_ret
   exact ⟨zd (a := 6) (zA (zAD HK.out (by simp [zF] <;> rfl) rfl rfl HV.out) (by decide)).symm, (hbw.alloc (by first | omega | (simp; done) | (simp; omega)) _).trans (hbn.mono (by first | omega | (simp; done) | (simp; omega)))⟩
  first
  | (have h13 := zwk HK.out (by decide)
     have HR := Lib.hid (zfk (it := it) (d := d) (len := sub.length) HK.out (by simp [zF] <;> rfl) rfl rfl HV.out (fun h => by simp [h.1] at h13)))
  | (have h13 := zwk HK.out (by decide)
     have HR := Lib.hid (zfk (it := 0) (d := d) (len := sub.length) HK.out (by simp [zF] <;> rfl) rfl rfl HV.out (fun h => by simp [h.1] at h13)))
  | (have h13 := zwk HK.out (by decide)
     have HR := Lib.hid (zfk (it := it) (d := 0) (len := sub.length) HK.out (by simp [zF] <;> rfl) rfl rfl HV.out (fun h => by simp [h.1] at h13)))
  | (have h13 := zwk HK.out (by decide)
     have HR := Lib.hid (zfk (it := 0) (d := 0) (len := sub.length) HK.out (by simp [zF] <;> rfl) rfl rfl HV.out (fun h => by simp [h.1] at h13)))
  | (by_cases h13 : k = 13
     rotate_left
     have hk13 : (k == 13) = false := by simpa using h13
     have HR := Lib.hid (zfk (it := 0) (d := 0) (len := sub.length) HK.out (by simp [zF] <;> rfl) rfl rfl HV.out (fun h => h13 h.1))
     clear h13
     rotate_left
     subst h13
     by_cases hq : nm = mr
     ·subst hq
      go_wp2_with (first | (go_at_call 303; refine (HNB.out _).mono ?_; rintro e wn ⟨rfl, hbn⟩; obtain ⟨hcn, hfn⟩ := bcellE hbn; have hln : w.heap.size < ws.heap.size + 1 := (by omega); have hln2 : w.heap.size < wn.heap.size := by (have hzz := hbn.size; simp at hzz; omega)))
      go_ret
      exact ⟨zd (a := 7) (zA (zAC HK.out (by simp [zF] <;> rfl) rfl rfl HV.out) (by decide)).symm, (hbw.alloc (by first | omega | (simp; done) | (simp; omega)) _).trans (hbn.mono (by first | omega | (simp; done) | (simp; omega)))⟩
     have hq1 : (nm.toList == mr.toList) = false := (Lib.bytes_beq_false_iff _ _).2 hq
     have HR := Lib.hid (zfk (it := 0) (d := 0) (len := sub.length) HK.out (by simp [zF] <;> rfl) rfl rfl HV.out (fun h => hq h.2))
     clear hq)
 all_goals
  cases rg
  ·go_wp2_with (first | (go_at_call 303; refine (HNB.out _).mono ?_; rintro e wn ⟨rfl, hbn⟩; obtain ⟨hcn, hfn⟩ := bcellE hbn; have hln : w.heap.size < ws.heap.size + 1 := (by omega); have hln2 : w.heap.size < wn.heap.size := by (have hzz := hbn.size; simp at hzz; omega)) | (go_at_call 304; refine (HRG.out _).mono ?_; rintro e wq ⟨rfl, hbq⟩; obtain ⟨hcq, hfq⟩ := bcellE hbq))
   go_ret
   exact ⟨zd (a := 2) (zA (HR.out.trans (by simp [zaT, HG.out])) (by decide)).symm, ((hbw.alloc (by first | omega | (simp; done) | (simp; omega)) _).trans (hbn.mono (by first | omega | (simp; done) | (simp; omega)))).trans (hbq.mono (by have hz1 := hbn.size; simp at hz1; omega))⟩
  have HE := Lib.hid (zkH (sub := sub) (HR.out.trans (by simp [zaT, HG.out])))
  go_wp2_with (first | (go_at_call 303; refine (HNB.out _).mono ?_; rintro e wn ⟨rfl, hbn⟩; obtain ⟨hcn, hfn⟩ := bcellE hbn; have hln : w.heap.size < ws.heap.size + 1 := (by omega); have hln2 : w.heap.size < wn.heap.size := by (have hzz := hbn.size; simp at hzz; omega)) | (go_at_call 304; refine (HRG.out _).mono ?_; rintro e wq ⟨rfl, hbq⟩; obtain ⟨hcq, hfq⟩ := bcellE hbq))
  have hB0 : Below w.heap.size w wq := ((hbw.alloc (by first | omega | (simp; done) | (simp; omega)) _).trans (hbn.mono (by first | omega | (simp; done) | (simp; omega)))).trans (hbq.mono (by have hz1 := hbn.size; simp at hz1; omega))
  have hc5 : wq.cell? ⟨w.heap.size, 5, none⟩ = some (.slice p sub.length cap) := by
   rw [hcq _ _ hln2, hcn _ _ (by simp; omega)]; go_simp
  have hsz : w.heap.size < wq.heap.size := by have := hbq.size; omega
  have HB0 := Lib.hid hB0
  have HC5 := Lib.hid hc5
  clear hB0 hc5 hcq hfq hcn hfn hbn hbq c0 c1 c2 c3 c4 c5 HRG HNB HSH HX HW HR HV HG HK
  go_loopw [5] (fun i wr => zBp wq sub i wr) (fun i _ => sub.length - (intOf i).toNat)
  case atStart => exact ⟨0, by omega, rfl, by simp [zac], Below.refl _ _⟩
  case round =>
   obtain ⟨j, hj, rfl, hP, hBr⟩ := hrel
   have HP := Lib.hid hP
   have hcr := (hBr.cell (p := ⟨w.heap.size, 5, none⟩) hsz).trans HC5.out
   clear hP
   by_cases hlt : j < sub.length
   ·have hbw' : Below w.heap.size w wr := HB0.out.trans (hBr.mono (by omega))
    obtain ⟨b, off, cv, rfl, g0, g1, g2, g3, g4, g5, g6⟩ := zhZ HS.out hbw' j hlt
    have hn1 := zaP sub j hlt
    have hn2 := zbz sub[j]
    have hC := Lib.hid (HIH.out sub[j].kind sub[j].name sub[j].more sub[j].int sub[j].den sub[j].sub cv wr (by omega) g6)
    rw [Ex.eta] at hC
    clear g6 hn1 hn2
    by_cases hq : zaj sub[j] = 0
    ·rw [hq] at hC
     have HT := Lib.hid ((zeu sub j hlt HP.out).trans hq)
     clear hq
     go_wp2_with (go_at_call 267; refine (hC.out).mono ?_; rintro e w' ⟨rfl, hb1⟩)
     go_roundw
     case rel => exact ⟨j + 1, by omega, by go_num, HT.out, hBr.trans (hb1.mono hBr.size)⟩
     case measure => simp [intOf]; omega
    ·have HT := Lib.hid (ztc hlt HP.out hq)
     have hq1 : (zaj sub[j] != 0) = true := by simpa using hq
     clear hq
     generalize zaj sub[j] = C at *
     go_wp2_with (go_at_call 267; refine (hC.out).mono ?_; rintro e w' ⟨rfl, hb1⟩)
     go_ret
     exact ⟨zd (a := C) (by rw [HE.out, HT.out]), HB0.out.trans ((hBr.mono (by omega)).trans (hb1.mono (by have := hBr.size; omega)))⟩
   ·obtain rfl : j = sub.length := by omega
    go_wp2_with fail
    go_ret
    exact ⟨zd (a := 0) (by have := HP.out; rw [List.take_length] at this; rw [HE.out, this]), HB0.out.trans (hBr.mono (by omega))⟩
theorem zup (N : Nat) : ∀ (k : Int) (nm mr : ByteArray) (it d : Int) (sub : List Ex) (sv : Value) (w : World), nodesL sub < N → N ≤ 1099511627776 → zas w w.heap.size sub sv →
  Calls Tryz.prog 267 #[.agg #[.int .i64 k, .string nm, .string mr, .int .i64 it, .int .i64 d, sv]] w fun e w' => e = .returned (.int .i64 (zaj (.mk k nm mr it d sub))) ∧ Below w.heap.size w w' := by
 induction N with
 | zero => intro k nm mr it d sub sv w hN; omega
 | succ N ih =>
  intro k nm mr it d sub sv w hN hm hs
  rcases h : zap k with _ | ⟨nn, nu, ns⟩
  ·exact zxu k nm mr it d sub sv w hs h
  ·exact zuo N (fun k nm mr it d sub sv w h1 h2 => ih k nm mr it d sub sv w h1 (by omega) h2) k nn nu ns nm mr it d sub sv w hN (by omega) hs h
end
section
open Go.RowKit
def zE (t : Ex) : Int := if 400 < zb t ∨ 40 < zbh t then 4 else zaj t
theorem ziU {t : Ex} (h : 400 < zb t) : zE t = 4 := by rw [zE, if_pos (.inl h)]
theorem ziV {t : Ex} (h : 40 < zbh t) : zE t = 4 := by rw [zE, if_pos (.inr h)]
theorem zgt {t : Ex} (h : ¬ 400 < zb t) (h' : ¬ 40 < zbh t) : zE t = zaj t := by rw [zE, if_neg (by omega)]
theorem zmh (k : Int) (nm mr : ByteArray) (it d : Int) (sub : List Ex) (sv : Value) (w : World) (hm : nodesL sub ≤ 1048576) (hs : zas w w.heap.size sub sv) :
  Calls Tryz.prog 230 #[.agg #[.int .i64 k, .string nm, .string mr, .int .i64 it, .int .i64 d, sv]] w fun e w' => e = .returned (.int .i64 (zE (.mk k nm mr it d sub))) ∧ Below w.heap.size w w' := by
 obtain ⟨p, cap, rfl, hcap, _⟩ := zaO hs
 obtain ⟨w1, hw1, hX⟩ := zct w #[.int .i64 k, .string nm, .string mr, .int .i64 it, .int .i64 d, .slice p sub.length cap] 105
 have HW := Lib.hid hw1
 have hsz := hX.size
 have HB0 := Lib.hid hX.below
 have hs1 := zbD hs hX.below hX.below.size
 have HN := Lib.hid (zmf (nodesL sub + 1) k nm mr it d sub _ w1 (by omega) (by omega) hs1)
 have HX := Lib.hid hX
 have HS := Lib.hid hs1
 obtain ⟨n, hn⟩ : ∃ n, nodesL sub + 1 = n := ⟨_, rfl⟩
 rw [hn] at HN
 have hn1 : n ≤ 1048577 := by omega
 have hEq : Hid (zb (.mk k nm mr it d sub) = n) := Lib.hid (by rw [← hn, zb])
 have hdl := zfi sub
 clear hs hs1 hX hw1 hn
 go_enter Tryz.func230, Tryz.ntmps230
 go_wp2_with fail
 rw [HW.out]
 refine (HN.out).mono ?_
 rintro e w2 ⟨rfl, hb⟩
 have hbs := hb.size
 obtain ⟨c0, c1, c2, c3, c4, c5⟩ := zdt HX.out hb
 by_cases hgt : 400 < n
 ·have hd : decide (400 < (n : Int)) = true := by simp; omega
  have HE := Lib.hid (ziU (t := .mk k nm mr it d sub) (by rw [hEq.out]; exact hgt))
  go_wp2_with fail
  go_ret
  exact ⟨zd (a := 4) HE.out.symm, HB0.out.trans (hb.mono (by omega))⟩
 ·have hd : decide (400 < (n : Int)) = false := by simp; omega
  have HG := Lib.hid hgt
  have HL := Lib.hid (zut (nodesL sub + 1) k nm mr it d sub _ w2 (by omega) (by omega) (zbD HS.out hb hb.size))
  obtain ⟨m, hm2⟩ : ∃ m, depthL sub + 1 = m := ⟨_, rfl⟩
  rw [hm2] at HL
  have hm3 : m ≤ 1048577 := by omega
  have hEq2 : Hid (zbh (.mk k nm mr it d sub) = m) := Lib.hid (by rw [← hm2, zbh])
  clear hgt hm2
  by_cases hgt2 : 40 < m
  ·have hd2 : decide (40 < (m : Int)) = true := by simp; omega
   have HE := Lib.hid (ziV (t := .mk k nm mr it d sub) (by rw [hEq2.out]; exact hgt2))
   go_wp2_with (go_at_call 266; refine (HL.out).mono ?_; rintro e w3 ⟨rfl, hb3⟩)
   go_ret
   exact ⟨zd (a := 4) HE.out.symm, HB0.out.trans ((hb.mono (by omega)).trans (hb3.mono (by omega)))⟩
  ·have hd2 : decide (40 < (m : Int)) = false := by simp; omega
   have HE := Lib.hid (zgt (t := .mk k nm mr it d sub) (by rw [hEq.out]; exact HG.out) (by rw [hEq2.out]; exact hgt2))
   clear hgt2
   go_wp2_with (go_at_call 266; refine (HL.out).mono ?_; rintro e w3 ⟨rfl, hb3⟩; obtain ⟨hc3, hf3⟩ := bcellE hb3; have hl3 : w.heap.size < w2.heap.size := (by omega))
   have HC := Lib.hid (zup (nodesL sub + 1) k nm mr it d sub _ w3 (by omega) (by omega) (zbD (zbD HS.out hb hb.size) hb3 hb3.size))
   refine (HC.out).mono ?_
   rintro e w4 ⟨rfl, hb4⟩
   go_wp2_with fail
   go_ret
   exact ⟨zd (a := zaj (.mk k nm mr it d sub)) HE.out.symm, HB0.out.trans ((hb.mono (by omega)).trans ((hb3.mono (by omega)).trans (hb4.mono (by have := hb3.size; omega))))⟩
end
section
open Go.RowKit Go.Shelf
attribute [local go_sem] Oper.semAt_some /- plain: the depths, the first error -/
mutual
theorem zwg : ∀ (d : Nat) (t : Ex) (x : Nat × Ex), x ∈ zdC d t → x.1 + 1 ≤ d + zbh t
 | d, .mk k n m i dn s, x, h => by
  simp only [zdC, List.mem_cons] at h
  rcases h with rfl | h
  ·simp only [zbh]; omega
  ·have := zwf (d + 1) s x h; simp only [zbh]; omega
theorem zwf : ∀ (d : Nat) (l : List Ex) (x : Nat × Ex), x ∈ zdc d l → x.1 + 1 ≤ d + depthL l
 | d, [], x, h => by simp [zdc] at h
 | d, e :: es, x, h => by
  simp only [zdc, List.mem_append] at h
  rcases h with h | h
  ·have := zwg d e x h; simp only [depthL]; omega
  ·have := zwf d es x h; simp only [depthL]; omega
end
mutual
theorem zoC : ∀ (d : Nat) (t : Ex), ∃ x ∈ zdC d t, x.1 + 1 = d + zbh t
 | d, .mk k n m i dn s => by
  rcases zoB (d + 1) s with ⟨rfl⟩ | ⟨x, hx, he⟩
  ·exact ⟨(d, .mk k n m i dn []), by simp [zdC], by simp [zbh, depthL]⟩
  ·exact ⟨x, by simp only [zdC, List.mem_cons]; exact .inr hx, by simp only [zbh]; omega⟩
theorem zoB : ∀ (d : Nat) (l : List Ex), l = [] ∨ ∃ x ∈ zdc d l, x.1 + 1 = d + depthL l
 | d, [] => .inl rfl
 | d, e :: es => by
  right
  obtain ⟨x, hx, he⟩ := zoC d e
  rcases zoB d es with rfl | ⟨y, hy, hye⟩
  ·exact ⟨x, by simp only [zdc, List.mem_append]; exact .inl hx, by simp only [depthL]; omega⟩
  ·rcases Nat.le_total (zbh e) (depthL es) with h | h
   ·exact ⟨y, by simp only [zdc, List.mem_append]; exact .inr hy, by simp only [depthL]; omega⟩
   ·exact ⟨x, by simp only [zdc, List.mem_append]; exact .inl hx, by simp only [depthL]; omega⟩
end
def zli (t : Ex) : Int := zaJ t.kind t.name t.more t.int t.den t.sub.length
def zbb : List (Nat × Ex) → Int
 | [] => 0
 | x :: xs => if zli x.2 = 0 then zbb xs else zli x.2
theorem zbO : ∀ a b : List (Nat × Ex), zbb (a ++ b) = if zbb a = 0 then zbb b else zbb a
 | [], b => by simp [zbb]
 | x :: xs, b => by
  simp only [zbb, List.cons_append, zbO xs b]
  by_cases h : zli x.2 = 0 <;> simp [h]
mutual
theorem zfP : ∀ (d : Nat) (t : Ex), zaj t = zbb (zdC d t)
 | d, .mk k n m i dn s => by
  rw [zaj, zdC, zbb, zhr (d + 1) s]; rfl
theorem zhr : ∀ (d : Nat) (l : List Ex), zac l = zbb (zdc d l)
 | d, [] => by simp [zac, zdc, zbb]
 | d, e :: es => by rw [zac, zdc, zbO, zfP d e, zhr d es]
end
theorem zhA (k : Int) (nm mr : ByteArray) (it d : Int) (p : Option Addr) (len cap : Nat) (w : World) :
  Calls Tryz.prog 215 #[.agg #[.int .i64 k, .string nm, .string mr, .int .i64 it, .int .i64 d, .slice p len cap]] w fun e w' =>
   e = .returned (.func (.func 258) #[] #[.pointer (some ⟨w.heap.size, 0, none⟩)]) ∧ w.alloc (.cells #[.int .i64 k, .string nm, .string mr, .int .i64 it, .int .i64 d, .slice p len cap] 105) = w' := by
 go_enter Tryz.func215, Tryz.ntmps215
 go_wp2
 go_ret
 exact ⟨rfl, rfl⟩
structure CkFrame (w : World) (E : Array Value) (res cnt : Int) (W : World) : Prop where
 e : W.heap[w.heap.size]? = some (.cells E 105 (0, 0))
 r : W.heap[w.heap.size + 1]? = some (.cells #[.int .i64 res] 29 (0, 0))
 c : W.heap[w.heap.size + 1 + 1]? = some (.cells #[.int .i64 cnt] 3 (0, 0))
 size : w.heap.size + 1 + 1 + 1 + 1 ≤ W.heap.size
 below : Below w.heap.size w W
theorem CkFrame.grown {w : World} {E : Array Value} {res cnt : Int} {A B : World} {row : Option Nat} (h : CkFrame w E res cnt A) (hg : A.grownBy B row) (hr : ∀ r, row = some r → w.heap.size ≤ r ∧ ∃ o : Obj, A.heap[r]? = some o ∧ o.isCells = false) : CkFrame w E res cnt B :=
 have hr' := fun r e => (hr r e).2
 ⟨(grownBy_keeps_cells hg hr' h.e rfl).trans h.e, (grownBy_keeps_cells hg hr' h.r rfl).trans h.r, (grownBy_keeps_cells hg hr' h.c rfl).trans h.c, Nat.le_trans h.size hg.size, h.below.trans ((Below.refl _ _).grown hg (by have := h.size; omega) (fun k e => (hr k e).1))⟩
theorem CkFrame.step {w : World} {E : Array Value} {res cnt : Int} {A B : World} {base : Nat} (h : CkFrame w E res cnt A) (hs : ItStep base A B) (hb : w.heap.size + 1 + 1 + 1 + 1 ≤ base) : CkFrame w E res cnt B :=
 ⟨(hs.below.block _ (by omega)).trans h.e, (hs.below.block _ (by omega)).trans h.r, (hs.below.block _ (by omega)).trans h.c, Nat.le_trans h.size hs.others.size, h.below.trans (hs.below.mono (by omega))⟩
theorem CkFrame.kept {w : World} {E : Array Value} {res cnt : Int} {A B : World} (h : CkFrame w E res cnt A) (hb : Below A.heap.size A B) : CkFrame w E res cnt B :=
 ⟨(hb.block _ (by have := h.size; omega)).trans h.e, (hb.block _ (by have := h.size; omega)).trans h.r, (hb.block _ (by have := h.size; omega)).trans h.c, Nat.le_trans h.size hb.size, h.below.trans (hb.mono (by have := h.size; omega))⟩
theorem CkFrame.setCnt {w : World} {E : Array Value} {res cnt : Int} {A : World} (h : CkFrame w E res cnt A) (x : Int) : CkFrame w E res x (A.setCell ⟨w.heap.size + 1 + 1, 0, none⟩ (.int .i64 x)) :=
 ⟨(Below.heap_setCell _ _ _ _ (by simp; omega)).trans h.e, (Below.heap_setCell _ _ _ _ (by simp)).trans h.r, one_setCell h.c, by simpa [World.setCell] using h.size, h.below.setCell (p := ⟨w.heap.size + 1 + 1, 0, none⟩) (by simp; omega) _⟩
theorem CkFrame.setRes {w : World} {E : Array Value} {res cnt : Int} {A : World} (h : CkFrame w E res cnt A) (x : Int) : CkFrame w E x cnt (A.setCell ⟨w.heap.size + 1, 0, none⟩ (.int .i64 x)) :=
 ⟨(Below.heap_setCell _ _ _ _ (by simp)).trans h.e, one_setCell h.r, (Below.heap_setCell _ _ _ _ (by simp)).trans h.c, by simpa [World.setCell] using h.size, h.below.setCell (p := ⟨w.heap.size + 1, 0, none⟩) (by simp) _⟩
def Ck1 (w : World) (E : Array Value) (pre : List (ItN)) (W : World) : Prop := CkFrame w E 0 pre.length W ∧ pre.length ≤ 400 ∧ ∀ x ∈ pre, x.1 ≤ 40
def zEA (w : World) (E : Array Value) (c : Code) (pre : List (ItN)) (W : World) : Prop := c = .ret ∧ (∃ n, CkFrame w E 4 n W) ∧ (400 < pre.length ∨ ∃ x ∈ pre, 40 < x.1)
def Ck2 (w : World) (E : Array Value) (D : Nat) (pre : List (ItN)) (W : World) : Prop := (∃ n, CkFrame w E 0 n W) ∧ zbb (pre.map zbU) = 0 ∧ W.heap[D]? = some (.deferred (some []))
def zEz (w : World) (E : Array Value) (D : Nat) (c : Code) (pre : List (ItN)) (W : World) : Prop := c = .ret ∧ ∃ err n, CkFrame w E err n W ∧ err ≠ 0 ∧ zbb (pre.map zbU) = err ∧ W.heap[D]? = some (.deferred (some []))
theorem zCK (w : World) (E : Array Value) (B : Nat) (hB : w.heap.size ≤ B) : OwnFrom B (Ck1 w E) := fun s W W' row hs hg hr => ⟨hs.1.grown hg (fun r e => ⟨by have := (hr r e).1; omega, (hr r e).2⟩), hs.2⟩
theorem zAA (w : World) (E : Array Value) (c : Code) (B : Nat) (hB : w.heap.size ≤ B) : OwnFrom B (zEA w E c) := fun s W W' row hs hg hr => ⟨hs.1, ⟨_, hs.2.1.choose_spec.grown hg (fun r e => ⟨by have := (hr r e).1; omega, (hr r e).2⟩)⟩, hs.2.2⟩
theorem zCJ (w : World) (E : Array Value) (D : Nat) (B : Nat) (hB : w.heap.size ≤ B) (hD : D < B) : OwnFrom B (Ck2 w E D) := fun s W W' row hs hg hr => ⟨⟨_, hs.1.choose_spec.grown hg (fun r e => ⟨by have := (hr r e).1; omega, (hr r e).2⟩)⟩, hs.2.1, (hg.block D (Array.getElem?_eq_some_iff.1 hs.2.2).1 (fun e => by have := (hr D e.symm).1; omega)).trans hs.2.2⟩
theorem zAz (w : World) (E : Array Value) (D : Nat) (c : Code) (B : Nat) (hB : w.heap.size ≤ B) (hD : D < B) : OwnFrom B (zEz w E D c) := fun s W W' row ⟨h1, err, n, h2, h3, h4, h5⟩ hg hr => ⟨h1, err, n, h2.grown hg (fun r e => ⟨by have := (hr r e).1; omega, (hr r e).2⟩), h3, h4, (hg.block D (Array.getElem?_eq_some_iff.1 h5).1 (fun e => by have := (hr D e.symm).1; omega)).trans h5⟩
theorem zxT {t : Ex} {pre : List (ItN)} (hp : zei t pre) (hb : 400 < pre.length ∨ ∃ x ∈ pre, 40 < x.1) : zE t = 4 := by
 rcases hb with hb | ⟨x, hx, h40⟩
 ·apply ziU
  have := hp.length_le
  rw [List.length_map, zdd] at this; omega
 ·apply ziV
  have := zwg 1 t (zbU x) (hp.subset (List.mem_map_of_mem hx))
  simp only [zbU] at this; omega
theorem zuZ {t : Ex} {pre : List (ItN)} (hp : zej t pre) (h1 : pre.length ≤ 400) (h2 : ∀ x ∈ pre, x.1 ≤ 40) : ¬ 400 < zb t ∧ ¬ 40 < zbh t := by
 constructor
 ·have := congrArg List.length (show _ = _ from hp)
  rw [List.length_map, zdd] at this; omega
 ·obtain ⟨x, hx, he⟩ := zoC 1 t
  rw [← (show _ = _ from hp)] at hx
  obtain ⟨y, hy, rfl⟩ := List.mem_map.1 hx
  have := h2 y hy
  simp only [zbU] at he; omega
theorem zeA {lo : Nat} {A B : World} (h : Below lo A B) : zcW lo A B := fun b off hb _ hv => (h.cell (p := ⟨b, off, none⟩) hb).trans hv
theorem zAy (w : World) (t1 t2 t3 : TypeId) (E : Array Value) (V : World) (hV : (((w.alloc (.cells E t1)).alloc (.cells #[.int .i64 0] t2)).alloc (.cells #[.int .i64 0] t3)).alloc (.cells E t1) = V) (h1 : t1 = 105 := by rfl) (h2 : t2 = 29 := by rfl) (h3 : t3 = 3 := by rfl) :
  CkFrame w E 0 0 V ∧ V.heap[w.heap.size + 1 + 1 + 1]? = some (.cells E t1 (0, 0)) ∧ V.heap.size = w.heap.size + 1 + 1 + 1 + 1 := by
 subst h1 h2 h3
 have q1 := World.alloc_heap_new w (.cells E 105)
 have q2 := World.alloc_heap_new (w.alloc (.cells E 105)) (.cells #[.int .i64 0] 29)
 have q3 := World.alloc_heap_new ((w.alloc (.cells E 105)).alloc (.cells #[.int .i64 0] 29)) (.cells #[.int .i64 0] 3)
 have q4 := World.alloc_heap_new (((w.alloc (.cells E 105)).alloc (.cells #[.int .i64 0] 29)).alloc (.cells #[.int .i64 0] 3)) (.cells E 105)
 simp only [World.size_alloc] at q2 q3 q4
 rw [hV] at q4
 refine ⟨⟨?_, ?_, ?_, ?_, ?_⟩, q4, ?_⟩ <;> rw [← hV]
 ·exact (Below.heap_alloc _ _ _ (by simp <;> omega)).trans ((Below.heap_alloc _ _ _ (by simp <;> omega)).trans ((Below.heap_alloc _ _ _ (by simp)).trans q1))
 ·exact (Below.heap_alloc _ _ _ (by simp <;> omega)).trans ((Below.heap_alloc _ _ _ (by simp)).trans q2)
 ·exact (Below.heap_alloc _ _ _ (by simp)).trans q3
 ·simp
 ·exact ((((Below.refl _ w).alloc (Nat.le_refl _) _).alloc (by simp) _).alloc (by simp; omega) _).alloc (by simp; omega) _
 ·simp
end
section
open Go.RowKit Go.Shelf
attribute [local go_sem] Oper.semAt_some
theorem zon {w : World} {E : Array Value} {res n : Int} {W : World} {D D2 : Nat} (h : CkFrame w E res n W) (h2 : W.heap[D2]? = some (.deferred (some []))) (h1 : W.heap[D]? = some (.deferred (some []))) (hne : D ≠ D2) (hw2 : w.heap.size ≤ D2) (hw1 : w.heap.size ≤ D) :
  (W.putObj D2 (.deferred none)).heap[D]? = some (.deferred (some [])) ∧ ((W.putObj D2 (.deferred none)).putObj D (.deferred none)).cell? ⟨w.heap.size + 1, 0, none⟩ = some (.int .i64 res) ∧ Below w.heap.size w ((W.putObj D2 (.deferred none)).putObj D (.deferred none)) := by
 have q : (W.putObj D2 (.deferred none)).heap[D]? = some (.deferred (some [])) := (World.putObj_heap_other hne).trans h1
 refine ⟨q, ?_, ?_⟩
 ·have c1 := cell_kept (cell_of_one h.r) (grownBy_putObj' W D2 (.deferred none)) (fun r e => by cases e; exact ⟨_, h2, rfl⟩)
  exact cell_kept c1 (grownBy_putObj' _ D (.deferred none)) (fun r e => by cases e; exact ⟨_, q, rfl⟩)
 ·exact (h.below.trans (belowK_b (w := w) (Nat.le_refl _) W D2 _ _ hw2 h2 rfl rfl)).trans (belowK_b (w := w) (Nat.le_refl _) _ D _ _ hw1 q rfl rfl)
theorem zlP (k : Int) (nm mr : ByteArray) (it d : Int) (sub : List Ex) (sv : Value) (w : World) (hm : nodesL sub ≤ 1048576) (hs : zas w w.heap.size sub sv) :
  Calls Tryz.prog 137 #[.agg #[.int .i64 k, .string nm, .string mr, .int .i64 it, .int .i64 d, sv]] w fun e w' => e = .returned (.int .i64 (zE (.mk k nm mr it d sub))) ∧ Below w.heap.size w w' := by
 obtain ⟨p, cap, rfl, hcap, _⟩ := zaO hs
 refine (callsIn_wide (n := 4)).1 ?_
 refine callsIn_of_wp_marks Tryz.func137 rfl trivial ?_ rfl
 simp only [Tryz.ntmps137, List.size_toArray, List.length_cons, List.length_nil, Nat.reduceAdd, Nat.reduceSub, Array.replicate_succ, Array.replicate_zero, List.push_toArray, List.append_toArray, List.nil_append, List.cons_append]
 gi_wp2_with (first | (refine ⟨trivial, ?_⟩; gi_at_call 215; refine (callsIn_wide.2 (zhA _ _ _ _ _ _ _ _ _)).mono ?_; rintro e w' ⟨rfl, rfl⟩))
 have HS := Lib.hid hs
 obtain ⟨V, hV⟩ : ∃ V, ((((w.alloc (Obj.cells #[.int .i64 k, .string nm, .string mr, .int .i64 it, .int .i64 d, .slice p sub.length cap] 105)).alloc (Obj.cells #[Value.int IntKind.i64 0] 29)).alloc (Obj.cells #[Value.int IntKind.i64 0] 3)).alloc (Obj.cells #[.int .i64 k, .string nm, .string mr, .int .i64 it, .int .i64 d, .slice p sub.length cap] 105)) = V := ⟨_, rfl⟩
 obtain ⟨hF, hb4, hz⟩ := zAy w 105 29 3 #[.int .i64 k, .string nm, .string mr, .int .i64 it, .int .i64 d, .slice p sub.length cap] V hV
 rw [hV]
 clear hV hs
 refine zbx (P := Tryz.prog) (F := Fence.wide) (n := 4) rfl (by omega) (gf := 258) (lb := #[.pointer (some ⟨w.heap.size + 1 + 1 + 1, 0, none⟩)]) rfl trivial (enters_of Tryz.func258 (by kernel_rfl) rfl)
  (encs := fun x : ItN => #[.int .i64 x.1, zhV x]) (Kp := KeepOut w.heap.size (w.heap.size + 1 + 1 + 1)) (R := ItStep (V.heap.size + 1 + 1)) (X := fun _ x => zje w w.heap.size x.2.1 (zhV x))
  (S := zej (.mk k nm mr it d sub)) (Sp := zei (.mk k nm mr it d sub))
  (fun r l J Jx hJ _ hY hJ0 => zjr 3 l (w.heap.size + 1 + 1 + 1) w.heap.size (w.heap.size + 1 + 1 + 1) (by omega) k nm mr it d sub p cap w _ HS.out (zeA ((hF.below.alloc (by omega) _).alloc (by simp; omega) _)) (by omega) (Nat.le_refl _)
   ((Below.heap_alloc _ _ _ (by simp; omega)).trans ((Below.heap_alloc _ _ _ (by omega)).trans hb4)) hm J Jx (fun pre A B h1 h2 => hJ pre A B h1 (by simpa using h2)) hY hJ0)
  (fun h1 h2 => h1.trans h2) (fun W l o o' _ hl ho => KeepOut.putObj W l o o' hl ho) (fun h => h.others.from _) (fun _ => rfl)
  (Ck1 w #[.int .i64 k, .string nm, .string mr, .int .i64 it, .int .i64 d, .slice p sub.length cap]) (zEA w #[.int .i64 k, .string nm, .string mr, .int .i64 it, .int .i64 d, .slice p sub.length cap]) (zCK w _ _ (by omega)) (fun c => zAA w _ c _ (by omega))
  (fun pre A B h hs => ⟨h.1.step hs (by omega), h.2⟩) (fun c pre A B h hs => ⟨h.1, ⟨_, h.2.1.choose_spec.step hs (by omega)⟩, h.2.2⟩) ⟨hF, by simp, by simp⟩
  (fun x => { tmps := #[Value.agg #[.int .i64 k, .string nm, .string mr, .int .i64 it, .int .i64 d, .slice p sub.length cap], Value.pointer (some { block := w.heap.size, off := 0 }), Value.pointer (some { block := w.heap.size + 1, off := 0 }), Value.pointer (some { block := w.heap.size + 1 + 1, off := 0 }), Value.int .i64 x.1, undef, undef, undef,
        Value.agg #[.int .i64 k, .string nm, .string mr, .int .i64 it, .int .i64 d, .slice p sub.length cap], Value.func (Fn.func 258) #[] #[Value.pointer (some { block := w.heap.size + 1 + 1 + 1, off := 0 })], Value.int .i64 x.1, zhV x, undef, undef, undef, undef, undef, undef, undef, undef, undef, undef, undef, undef, undef, undef, undef, undef, undef], defers := [] }) ?assign ?body ?done ?stop
 case assign =>
  intro l x W K hK
  gi_wp2
  exact hK
 case body =>
  rintro l pre x W hI -
  have c0 := cell_of_one hI.1.c
  have f0 := free_of_one hI.1.c
  have c1 := cell_of_one hI.1.r
  have f1 := free_of_one hI.1.r
  have hle := hI.2.1
  have HI := Lib.hid hI
  clear hI
  have hsz := HI.out.1.size
  by_cases hgt : 400 < pre.length + 1
  ·have hd : decide (400 < (pre.length : Int) + 1) = true := by simp; omega
   gi_wp2_with fail
   refine ⟨((KeepsOthers.setCell _ _ _).trans (KeepsOthers.setCell _ _ _)).from _, rfl, ⟨_, (HI.out.1.setCnt _).setRes 4⟩, .inl (by simp; omega)⟩
  ·have hd : decide (400 < (pre.length : Int) + 1) = false := by simp; omega
   by_cases hx : 40 < x.1
   ·have hd2 : decide (40 < (x.1 : Int)) = true := by simp; omega
    gi_wp2_with fail
    refine ⟨((KeepsOthers.setCell _ _ _).trans (KeepsOthers.setCell _ _ _)).from _, rfl, ⟨_, (HI.out.1.setCnt _).setRes 4⟩, .inr ⟨x, by simp, hx⟩⟩
   ·have hd2 : decide (40 < (x.1 : Int)) = false := by simp; omega
    gi_wp2_with fail
    have hF' := HI.out.1.setCnt ((pre.length : Int) + 1)
    refine ⟨(KeepsOthers.setCell _ _ _).from _, (KeepOut.below (Below.refl _ _)).setCell (p := ⟨w.heap.size + 1 + 1, 0, none⟩) (by simp; omega) _, ?_, by simp; omega, ?_⟩
    ·have e1 : ((pre ++ [x]).length : Int) = (pre.length : Int) + 1 := by simp
     rw [e1]; exact hF'
    ·intro z hz
     rcases List.mem_append.1 hz with h | h
     ·exact HI.out.2.2 z h
     ·simp at h; subst h; omega
 case done =>
  rintro D xs W hD hS hI hK
  obtain ⟨hg1, hg2⟩ := zuZ hS hI.2.1 hI.2.2
  have HX := Lib.hid (zgt hg1 hg2)
  have hF2 := hI.1
  have hW2 : w.heap.size + 1 + 1 + 1 + 1 ≤ W.heap.size := hF2.size
  clear hI hg1 hg2 hS
  have hcell : ∀ i (h : i < 6), W.cell? ⟨w.heap.size, i, none⟩ = some (#[.int .i64 k, .string nm, .string mr, .int .i64 it, .int .i64 d, .slice p sub.length cap][i]'h) := fun i h => by simp [World.cell?, hF2.e]
  have c0 : W.cell? ⟨w.heap.size, 0, none⟩ = some (.int .i64 k) := hcell 0 (by omega)
  have c1 : W.cell? ⟨w.heap.size, 1, none⟩ = some (.string nm) := hcell 1 (by omega)
  have c2 : W.cell? ⟨w.heap.size, 2, none⟩ = some (.string mr) := hcell 2 (by omega)
  have c3 : W.cell? ⟨w.heap.size, 3, none⟩ = some (.int .i64 it) := hcell 3 (by omega)
  have c4 : W.cell? ⟨w.heap.size, 4, none⟩ = some (.int .i64 d) := hcell 4 (by omega)
  have c5 : W.cell? ⟨w.heap.size, 5, none⟩ = some (.slice p sub.length cap) := hcell 5 (by omega)
  clear hcell
  gi_wp2_with (first | (refine ⟨trivial, ?_⟩; gi_at_call 215; refine (callsIn_wide.2 (zhA _ _ _ _ _ _ _ _ _)).mono ?_; rintro e w' ⟨rfl, rfl⟩))
  obtain ⟨V2, hV2⟩ : ∃ V2, W.alloc (.cells #[.int .i64 k, .string nm, .string mr, .int .i64 it, .int .i64 d, .slice p sub.length cap] 105) = V2 := ⟨_, rfl⟩
  have hF3 : CkFrame w #[.int .i64 k, .string nm, .string mr, .int .i64 it, .int .i64 d, .slice p sub.length cap] 0 xs.length V2 := by rw [← hV2]; exact hF2.kept ((Below.refl _ _).alloc (Nat.le_refl _) _)
  have hb5 : V2.heap[W.heap.size]? = some (.cells #[.int .i64 k, .string nm, .string mr, .int .i64 it, .int .i64 d, .slice p sub.length cap] 105 (0, 0)) := by rw [← hV2]; exact World.alloc_heap_new W _
  have hz2 : V2.heap.size = W.heap.size + 1 := by rw [← hV2]; simp
  have hDW := (Array.getElem?_eq_some_iff.1 hK).1
  have hK2 : V2.heap[D]? = some (.deferred (some [])) := by rw [← hV2]; exact (Below.heap_alloc _ _ _ hDW).trans hK
  rw [hV2]
  clear hV2 c0 c1 c2 c3 c4 c5
  refine zeK (P := Tryz.prog) (F := Fence.wide) (n := 4) rfl (by omega) (gf := 258) (lb := #[.pointer (some ⟨W.heap.size, 0, none⟩)]) rfl trivial (enters_of Tryz.func258 (by kernel_rfl) rfl)
   (encs := fun x : ItN => #[.int .i64 x.1, zhV x]) (Kp := KeepOut w.heap.size (w.heap.size + 1 + 1 + 1)) (R := ItStep (V2.heap.size + 1 + 1)) (X := fun _ x => zje w w.heap.size x.2.1 (zhV x))
   (S := zej (.mk k nm mr it d sub)) (Sp := zei (.mk k nm mr it d sub))
   (fun r l J Jx hJ _ hY hJ0 => zjr 3 l W.heap.size w.heap.size (w.heap.size + 1 + 1 + 1) (by omega) k nm mr it d sub p cap w _ HS.out (zeA ((hF3.below.alloc (by omega) _).alloc (by simp; omega) _)) (by omega) (by omega)
    ((Below.heap_alloc _ _ _ (by simp; omega)).trans ((Below.heap_alloc _ _ _ (by omega)).trans hb5)) hm J Jx (fun pre A B h1 h2 => hJ pre A B h1 (by simpa using h2)) hY hJ0)
   (fun h1 h2 => h1.trans h2) (fun W l o o' _ hl ho => KeepOut.putObj W l o o' hl ho) (fun h => h.others.from _) (fun _ => rfl)
   (Ck2 w #[.int .i64 k, .string nm, .string mr, .int .i64 it, .int .i64 d, .slice p sub.length cap] D) (zEz w #[.int .i64 k, .string nm, .string mr, .int .i64 it, .int .i64 d, .slice p sub.length cap] D) (zCJ w _ _ _ (by omega) (by omega)) (fun c => zAz w _ _ c _ (by omega) (by omega))
   (fun pre A B h hs => ⟨⟨_, h.1.choose_spec.step hs (by omega)⟩, h.2.1, hs.others.same _ _ h.2.2 rfl⟩) (fun c pre A B h hs => by
    obtain ⟨h1, err, n, h2, h3, h4, h5⟩ := h
    exact ⟨h1, err, n, h2.step hs (by omega), h3, h4, hs.others.same _ _ h5 rfl⟩) ⟨⟨_, hF3⟩, rfl, hK2⟩
   (fun x b => { tmps := #[Value.agg #[.int .i64 k, .string nm, .string mr, .int .i64 it, .int .i64 d, .slice p sub.length cap], Value.pointer (some { block := w.heap.size, off := 0 }), Value.pointer (some { block := w.heap.size + 1, off := 0 }), Value.pointer (some { block := w.heap.size + 1 + 1, off := 0 }), undef, undef, Value.pointer (some { block := b, off := 0 }), undef,
         Value.agg #[.int .i64 k, .string nm, .string mr, .int .i64 it, .int .i64 d, .slice p sub.length cap], Value.func (Fn.func 258) #[] #[Value.pointer (some { block := w.heap.size + 1 + 1 + 1, off := 0 })], undef, undef, undef, undef, undef, undef, undef, undef, undef, undef, Value.agg #[.int .i64 k, .string nm, .string mr, .int .i64 it, .int .i64 d, .slice p sub.length cap], Value.func (Fn.func 258) #[] #[Value.pointer (some { block := W.heap.size, off := 0 })], Value.int .i64 x.1, zhV x, undef, undef, undef, undef, undef], defers := [] })
   (fun x => .cells #[.int .i64 x.2.1.kind, .string x.2.1.name, .string x.2.1.more, .int .i64 x.2.1.int, .int .i64 x.2.1.den, .slice x.2.2.1 x.2.1.sub.length x.2.2.2] 105) (fun W o => KeepOut.below ((Below.refl _ _).alloc (Nat.le_refl _) _)) ?assign2 ?body2 ?done2 ?stop2
  case assign2 =>
   intro l x W K hK
   gi_wp2
   exact hK
  case body2 =>
   rintro l pre x b W5 hI - hbx hbV
   obtain ⟨⟨n5, hF5⟩, hfe, hD5⟩ := hI
   have cr := cell_of_one hF5.r
   have fr := free_of_one hF5.r
   have g0 : W5.cell? ⟨b, 0, none⟩ = some (.int .i64 x.2.1.kind) := by simp [World.cell?, hbx]
   have g1 : W5.cell? ⟨b, 1, none⟩ = some (.string x.2.1.name) := by simp [World.cell?, hbx]
   have g2 : W5.cell? ⟨b, 2, none⟩ = some (.string x.2.1.more) := by simp [World.cell?, hbx]
   have g3 : W5.cell? ⟨b, 3, none⟩ = some (.int .i64 x.2.1.int) := by simp [World.cell?, hbx]
   have g4 : W5.cell? ⟨b, 4, none⟩ = some (.int .i64 x.2.1.den) := by simp [World.cell?, hbx]
   have g5 : W5.cell? ⟨b, 5, none⟩ = some (.slice x.2.2.1 x.2.1.sub.length x.2.2.2) := by simp [World.cell?, hbx]
   have HF5 := Lib.hid hF5
   have HFE := Lib.hid hfe
   have HD5 := Lib.hid hD5
   have hs5 := hF5.size
   have HC := Lib.hid (zlL x.2.1.kind x.2.1.name x.2.1.more x.2.1.int x.2.1.den x.2.2.1 x.2.1.sub.length x.2.2.2 W5)
   obtain ⟨err, herr⟩ : ∃ err, zaJ x.2.1.kind x.2.1.name x.2.1.more x.2.1.int x.2.1.den x.2.1.sub.length = err := ⟨_, rfl⟩
   rw [herr] at HC
   have HER : Hid (zli x.2.1 = err) := Lib.hid herr
   clear hF5 hfe hD5 hbx herr
   by_cases hz5 : err = 0
   ·subst hz5
    gi_wp2_with (first | (refine ⟨trivial, ?_⟩; gi_at_call 216; refine (CallsIn.inRound l (callsIn_wide.2 HC.out)).mono ?_; rintro e w' ⟨rfl, hb⟩; have HB := Lib.hid hb; clear hb))
    refine ⟨(zaN HB.out).from _, KeepOut.below HB.out, ⟨_, HF5.out.kept HB.out⟩, ?_, (HB.out.block _ (Array.getElem?_eq_some_iff.1 HD5.out).1).trans HD5.out⟩
    rw [List.map_append, zbO, if_pos HFE.out]
    simp only [List.map_cons, List.map_nil, zbU, zbb, HER.out, if_true]
   ·have hz6 : (err != 0) = true := by simpa using hz5
    gi_wp2_with (first | (refine ⟨trivial, ?_⟩; gi_at_call 216; refine (CallsIn.inRound l (callsIn_wide.2 HC.out)).mono ?_; rintro e w' ⟨rfl, hb⟩; have cr' := (hb.cell (p := ⟨w.heap.size + 1, 0, none⟩) (by show w.heap.size + 1 < _; omega)).trans cr; have fr' := (hb.frozen (p := ⟨w.heap.size + 1, 0, none⟩) (by show w.heap.size + 1 < _; omega)).trans fr; have HB := Lib.hid hb; clear hb))
    refine ⟨((zaN HB.out).trans (KeepsOthers.setCell _ _ _)).from _, rfl, err, _, (HF5.out.kept HB.out).setRes err, hz5, ?_, (KeepsOthers.setCell _ _ _).same _ _ ((HB.out.block _ (Array.getElem?_eq_some_iff.1 HD5.out).1).trans HD5.out) rfl⟩
    rw [List.map_append, zbO, if_pos HFE.out]
    simp only [List.map_cons, List.map_nil, zbU, zbb, HER.out, if_neg hz5]
  case done2 =>
   rintro D2 ys W6 hD2 hS2 ⟨⟨n6, hF6⟩, hfe, hD6⟩ hK6
   have hch : zaj (.mk k nm mr it d sub) = 0 := by rw [zfP 1, ← (show _ = _ from hS2)]; exact hfe
   have cr := cell_of_one hF6.r
   have fr := free_of_one hF6.r
   have HF6 := Lib.hid hF6
   have HCH := Lib.hid hch
   clear hF6 hch
   gi_wp2_with fail
   have hF7 := HF6.out.setRes 0
   have hK7 := (KeepsOthers.setCell W6 ⟨w.heap.size + 1, 0, none⟩ (.int .i64 0)).same D2 _ hK6 rfl
   have hD7 := (KeepsOthers.setCell W6 ⟨w.heap.size + 1, 0, none⟩ (.int .i64 0)).same D _ hD6 rfl
   generalize W6.setCell ⟨w.heap.size + 1, 0, none⟩ (.int .i64 0) = W7 at *
   obtain ⟨hx1, hx2, hx3⟩ := zon hF7 hK7 hD7 (by omega) (by omega) (by omega)
   refine ⟨by simp, .inl ⟨_, _, rfl, run_takeDeferred hK7, ⟨by simp, .inl ⟨_, _, rfl, run_takeDeferred hx1, ?_⟩⟩⟩⟩
   refine ⟨.int .i64 0, ?_, zd (a := 0) (by rw [HX.out, HCH.out]), hx3⟩
   simp [results, Tryz.f137, go_sem, hx2]
  case stop2 =>
   rintro D2 c pre W6 hD2 hpre ⟨rfl, err, n6, hF6, hne, hfe, hD6⟩ hK6
   have hch : zaj (.mk k nm mr it d sub) = err := by
    obtain ⟨rest, hr⟩ := hpre
    rw [zfP 1, ← hr, zbO, hfe, if_neg hne]
   gi_wp2_with fail
   obtain ⟨hx1, hx2, hx3⟩ := zon hF6 hK6 hD6 (by omega) (by omega) (by omega)
   refine ⟨by simp, .inl ⟨_, _, rfl, run_takeDeferred hK6, ⟨by simp, .inl ⟨_, _, rfl, run_takeDeferred hx1, ?_⟩⟩⟩⟩
   refine ⟨.int .i64 err, ?_, zd (a := err) (by rw [HX.out, hch]), hx3⟩
   simp [results, Tryz.f137, go_sem, hx2]
 case stop =>
  rintro D c pre W hD hpre ⟨rfl, ⟨n, hF2⟩, hbad⟩ hK
  have HX := Lib.hid (zxT hpre hbad)
  gi_wp2_with fail
  refine ⟨by simp, .inl ⟨_, _, rfl, run_takeDeferred hK, ?_⟩⟩
  have hc5 := cell_kept (cell_of_one hF2.r) (grownBy_putObj' _ D (.deferred none)) (fun r e => by cases e; exact ⟨_, hK, rfl⟩)
  refine ⟨.int .i64 4, ?_, zd (a := 4) HX.out.symm, hF2.below.trans (belowK_b (w := w) (Nat.le_refl _) W D _ _ (by omega) hK rfl rfl)⟩
  simp [results, Tryz.f137, go_sem, hc5]
end
end Go.Proofs.YtpnjjmcimjlfkaaGreatDoor
