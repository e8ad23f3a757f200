/- Texts of this proof, part 9: what the proof uses of them. -/
import Derived.Test.YtpnjjmcimjlfkaaGreatDoorCag
import Derived.Test.YtpnjjmcimjlfkaaGreatDoorCah
import Derived.Test.YtpnjjmcimjlfkaaGreatDoorProg
import Derived.Outline
import Derived.StillTailTactics
import Derived.Deep.RegionHeld3
import Derived.Lib.SlicesS
set_option maxRecDepth 100000
set_option maxHeartbeats 64000000
namespace Go.Proofs.YtpnjjmcimjlfkaaGreatDoor
section
open Go.RowKit
theorem zkj (c : Int) (w : World) (h : zax c = true) : Calls Tryz.prog 225 #[.int .u8 c] w fun e w' => e = .returned (.bool true) ∧ w = w' := by
 obtain ⟨h1, h2⟩ : 97 ≤ c ∧ c ≤ 122 := by simpa [zax] using h
 clear h
 go_enter Tryz.func225, Tryz.ntmps225
 go_wp2
 go_ret
 exact ⟨rfl, rfl⟩
theorem zlY (c : Int) (w : World) (h : zax c = false) : Calls Tryz.prog 225 #[.int .u8 c] w fun e w' => e = .returned (.bool false) ∧ w = w' := by
 by_cases h1 : 97 ≤ c
 ·have h2 : ¬ c ≤ 122 := by simp [zax] at h; omega
  clear h
  go_enter Tryz.func225, Tryz.ntmps225
  go_wp2
  go_ret
  exact ⟨rfl, rfl⟩
 ·clear h
  go_enter Tryz.func225, Tryz.ntmps225
  go_wp2
  go_ret
  exact ⟨rfl, rfl⟩
theorem zgb (c : Int) (w : World) : Calls Tryz.prog 225 #[.int .u8 c] w fun e w' => e = .returned (.bool (zax c)) ∧ w = w' := by
 cases h : zax c
 ·exact zlY c w h
 ·exact zkj c w h
theorem zun (c : Int) (w : World) (h : zbv c = true) : Calls Tryz.prog 226 #[.int .u8 c] w fun e w' => e = .returned (.bool true) ∧ w = w' := by
 obtain ⟨h1, h2⟩ : 48 ≤ c ∧ c ≤ 57 := by simpa [zbv] using h
 clear h
 go_enter Tryz.func226, Tryz.ntmps226
 go_wp2
 go_ret
 exact ⟨rfl, rfl⟩
theorem zxt (c : Int) (w : World) (h : zbv c = false) : Calls Tryz.prog 226 #[.int .u8 c] w fun e w' => e = .returned (.bool false) ∧ w = w' := by
 by_cases h1 : 48 ≤ c
 ·have h2 : ¬ c ≤ 57 := by simp [zbv] at h; omega
  clear h
  go_enter Tryz.func226, Tryz.ntmps226
  go_wp2
  go_ret
  exact ⟨rfl, rfl⟩
 ·clear h
  go_enter Tryz.func226, Tryz.ntmps226
  go_wp2
  go_ret
  exact ⟨rfl, rfl⟩
theorem rdigit_any (c : Int) (w : World) : Calls Tryz.prog 226 #[.int .u8 c] w fun e w' => e = .returned (.bool (zbv c)) ∧ w = w' := by
 cases h : zbv c
 ·exact zxt c w h
 ·exact zun c w h
end
section
open Go.RowKit
def noSlashB (c : UInt8) : Bool := (c.toNat : Int) != 47
theorem zeD : ∀ l : List UInt8, (runL noSlashB l < l.length → Lib.indexByte l 47 = (runL noSlashB l : Nat)) ∧ (runL noSlashB l = l.length → Lib.indexByte l 47 = -1)
 | [] => ⟨fun h => by simp [runL] at h, fun _ => rfl⟩
 | c :: r => by
  obtain ⟨h1, h2⟩ := zeD r
  have hle := zpM noSlashB r
  by_cases hc : (c == 47) = true
  ·have e : noSlashB c = false := by obtain rfl := eq_of_beq hc; rfl
   have e2 : runL noSlashB (c :: r) = 0 := by simp [runL, e]
   rw [e2]
   refine ⟨fun _ => by rw [Lib.indexByte, if_pos hc]; rfl, fun h => by simp at h⟩
  ·have e : noSlashB c = true := by
    have hne : c ≠ 47 := by simpa using hc
    have : c.toNat ≠ 47 := fun h => hne (UInt8.toNat_inj.1 (by simpa using h))
    simp [noSlashB]; omega
   have e2 : runL noSlashB (c :: r) = runL noSlashB r + 1 := by simp [runL, e]
   rw [e2]
   refine ⟨fun h => ?_, fun h => ?_⟩
   ·have h3 := h1 (by simpa using h)
    rw [Lib.indexByte, if_neg hc, h3, if_neg (by simp <;> omega)] <;> omega
   ·have h3 := h2 (by simpa using h)
    rw [Lib.indexByte, if_neg hc, h3]; rfl
theorem zrV {l : List UInt8} (h : runL noSlashB l < l.length) : zaC l = l.take (runL noSlashB l) :: zaC (l.drop (runL noSlashB l + 1)) := (zeo ((zeD l).1 h)).2
theorem znV {l : List UInt8} (h : ¬ runL noSlashB l < l.length) : zaC l = [l] := zgc ((zeD l).2 (by have := zpM noSlashB l; omega))
theorem zvD {l : List UInt8} {most : Nat} (h0 : 0 < l.length) (h1 : l.length ≤ most) (hh : zcD l[0] = true) (h : zov zfS l l.length) : zay most l = true := by
 refine zlr h0 h1 (fun j hj => ?_)
 have := h j hj hj
 unfold zfS at this
 rcases Nat.eq_zero_or_pos j with rfl | hp
 ·exact .inl hh
 ·cases hl : zcD l[j]
  ·rw [hl] at this; exact .inr ⟨by omega, by simpa using this⟩
  ·exact .inl rfl
theorem zxj (s : ByteArray) (m : Nat) (w : World) (h : s.size = 0) :
  Calls Tryz.prog 147 #[.string s, .int .i64 m] w fun e w' => e = .returned (.bool (zay m s.data.toList)) ∧ w = w' := by
 have h1 : decide ((s.size : Int) < 1) = true := by simp; omega
 have HF := Lib.hid (zol (most := m) (l := s.data.toList) (by simpa using h))
 clear h
 go_enter Tryz.func147, Tryz.ntmps147
 go_wp2_with fail
 go_ret
 exact ⟨by rw [HF.out]; rfl, rfl⟩
theorem ztT (s : ByteArray) (m : Nat) (w : World) (h0 : 0 < s.size) (h : m < s.size) :
  Calls Tryz.prog 147 #[.string s, .int .i64 m] w fun e w' => e = .returned (.bool (zay m s.data.toList)) ∧ w = w' := by
 have h1 : decide ((s.size : Int) < 1) = false := by simp; omega
 have h2 : decide ((m : Int) < (s.size : Int)) = true := by simp; omega
 have HF := Lib.hid (zht (most := m) (l := s.data.toList) (by simpa using h))
 go_enter Tryz.func147, Tryz.ntmps147
 go_wp2_with fail
 go_ret
 exact ⟨by rw [HF.out]; rfl, rfl⟩
theorem ztU (s : ByteArray) (m : Nat) (w : World) (h0 : 0 < s.size) (h : s.size ≤ m) (hl : zax ((s[0]'h0).toNat : Int) = false) :
  Calls Tryz.prog 147 #[.string s, .int .i64 m] w fun e w' => e = .returned (.bool (zay m s.data.toList)) ∧ w = w' := by
 have h1 : decide ((s.size : Int) < 1) = false := by simp; omega
 have h2 : decide ((m : Int) < (s.size : Int)) = false := by simp; omega
 have h2' : decide (m < s.size) = false := by simp; omega
 have hz : (0 : Int) < s.size := by omega
 have HF := Lib.hid (zcX (most := m) (l := s.data.toList) (j := 0) (by simpa using h0) hl (.inl rfl))
 go_enter Tryz.func147, Tryz.ntmps147
 go_wp2_with (first | (go_at_call 225; refine (zlY _ _ hl).mono ?_; rintro e w' ⟨rfl, rfl⟩))
 go_ret
 exact ⟨by rw [HF.out]; rfl, rfl⟩
theorem ztV (s : ByteArray) (m : Nat) (w : World) (hm : m ≤ 1000) (h0 : 0 < s.size) (h : s.size ≤ m) (hl : zax ((s[0]'h0).toNat : Int) = true) :
  Calls Tryz.prog 147 #[.string s, .int .i64 m] w fun e w' => e = .returned (.bool (zay m s.data.toList)) ∧ w = w' := by
 have h1 : decide ((s.size : Int) < 1) = false := by simp; omega
 have h2 : decide ((m : Int) < (s.size : Int)) = false := by simp; omega
 have h2' : decide (m < s.size) = false := by simp; omega
 have hz : (0 : Int) < s.size := by omega
 have HL := Lib.hid hl
 go_enter Tryz.func147, Tryz.ntmps147
 go_wp2_with (first | (go_at_call 225; refine (zkj _ _ hl).mono ?_; rintro e w' ⟨rfl, rfl⟩))
 go_loop [5] (fun i => ∃ k : Nat, k ≤ s.size ∧ i = .int .i64 k ∧ zov zfS s.data.toList k) (fun i => s.size - (intOf i).toNat)
 case atStart => exact ⟨0, Nat.zero_le _, rfl, zlS _ _⟩
 case round =>
  obtain ⟨k, hk, rfl, hto⟩ := hrel
  clear hl
  by_cases hlt : k < s.size
  ·cases hlk : zax ((s[k]'hlt).toNat : Int)
   ·cases hdk : zbv ((s[k]'hlt).toNat : Int)
    ·have HF := Lib.hid (zcX (most := m) (l := s.data.toList) (j := k) (by simpa using hlt) hlk (.inr hdk))
     go_wp2_with (first | (go_at_call 225; refine (zgb _ _).mono ?_; rintro e w' ⟨rfl, rfl⟩) | (go_at_call 226; refine (rdigit_any _ _).mono ?_; rintro e w' ⟨rfl, rfl⟩))
     go_ret
     exact ⟨by rw [HF.out]; rfl, rfl⟩
    ·go_wp2_with (first | (go_at_call 225; refine (zgb _ _).mono ?_; rintro e w' ⟨rfl, rfl⟩) | (go_at_call 226; refine (rdigit_any _ _).mono ?_; rintro e w' ⟨rfl, rfl⟩))
     go_round
     case rel => exact ⟨k + 1, by omega, by go_num, zhC hlt hto (by simp [zfS, zfN, hdk])⟩
     case measure => simp [intOf]; omega
   ·go_wp2_with (first | (go_at_call 225; refine (zgb _ _).mono ?_; rintro e w' ⟨rfl, rfl⟩))
    go_round
    case rel => exact ⟨k + 1, by omega, by go_num, zhC hlt hto (by simp [zfS, zcD, hlk])⟩
    case measure => simp [intOf]; omega
  ·have HF := Lib.hid (zvD (most := m) (l := s.data.toList) (by simpa using h0) (by simpa using h) HL.out (fun j hj _ => hto j hj (by simp at hj; omega)))
   go_wp2_with fail
   go_ret
   exact ⟨by rw [HF.out]; rfl, rfl⟩
theorem zgC (s : ByteArray) (m : Nat) (w : World) (hm : m ≤ 1000) :
  Calls Tryz.prog 147 #[.string s, .int .i64 m] w fun e w' => e = .returned (.bool (zay m s.data.toList)) ∧ w = w' := by
 rcases Nat.eq_zero_or_pos s.size with h | h
 ·exact zxj s m w h
 ·rcases Nat.lt_or_ge m s.size with h' | h'
  ·exact ztT s m w h h'
  ·cases hl : zax ((s[0]'h).toNat : Int)
   ·exact ztU s m w h h' hl
   ·exact ztV s m w hm h h' hl
theorem zow (s : ByteArray) (w : World) :
  Calls Tryz.prog 227 #[.string s] w fun e w' => e = .returned (.bool (zay 24 s.data.toList)) ∧ w = w' := by
 go_enter Tryz.func227, Tryz.ntmps227
 go_wp2_with (first | (go_at_call 147; refine (zgC _ 24 _ (by omega)).mono ?_; rintro e w' ⟨rfl, rfl⟩))
 go_ret
 exact ⟨rfl, rfl⟩
theorem zlT (s : ByteArray) (w : World) (hs : s.size ≤ maxLen) :
  Calls Tryz.prog 146 #[.string s] w fun e w' => e = .returned (.int .i64 (runL noSlashB s.data.toList)) ∧ w = w' := by
 unfold maxLen at hs
 go_enter Tryz.func146, Tryz.ntmps146
 go_wp2_with fail
 go_loop [3] (fun i => ∃ k : Nat, k ≤ s.size ∧ i = .int .i64 k ∧ zov noSlashB s.data.toList k) (fun i => s.size - (intOf i).toNat)
 case atStart => exact ⟨0, Nat.zero_le _, rfl, zlS _ _⟩
 case round =>
  obtain ⟨k, hk, rfl, hto⟩ := hrel
  by_cases hlt : k < s.size
  ·cases hr : (((s[k]'hlt).toNat : Int) != 47)
   ·have Hf := Lib.hid (zvQ (p := noSlashB) (l := s.data.toList) (k := k) (by simpa using hk) hto (fun _ => hr))
    go_wp2_with fail
    go_ret
    exact ⟨by rw [Hf.out]; rfl, rfl⟩
   ·go_wp2_with fail
    go_round
    case rel => exact ⟨k + 1, by omega, by go_num, zhC hlt hto hr⟩
    case measure => simp [intOf]; omega
  ·have Hf := Lib.hid (zvQ (p := noSlashB) (l := s.data.toList) (k := k) (by simpa using hk) hto (fun h => absurd (by simpa using h) hlt))
   go_wp2_with fail
   go_ret
   exact ⟨by rw [Hf.out]; rfl, rfl⟩
end
section
open Go.RowKit
def ztB (v : Value) : Nat := match v with | .string s => s.size | _ => 0
def zBo (s : ByteArray) (v i : Value) : Prop := ∃ t : ByteArray, v = .string t ∧ i = .int .i64 (runL noSlashB t.data.toList) ∧ t.size ≤ 90 ∧ (zaC s.data.toList).all (zay 20) = (zaC t.data.toList).all (zay 20)
theorem zqx {l : List UInt8} (h : l.length ≤ 90) : zR l = (zaC l).all (zay 20) := by simp [zR, h]
theorem zrN (s : ByteArray) (w : World) (h : 90 < s.size) :
  Calls Tryz.prog 82 #[.string s] w fun e w' => e = .returned (.bool (zR s.data.toList)) ∧ w = w' := by
 have HF := Lib.hid (zkv (l := s.data.toList) (by simpa using h))
 go_enter Tryz.func82, Tryz.ntmps82
 go_wp2_with fail
 go_ret
 exact ⟨by rw [HF.out]; rfl, rfl⟩
theorem zpV (s : ByteArray) (w : World) (h : s.size ≤ 90) :
  Calls Tryz.prog 82 #[.string s] w fun e w' => e = .returned (.bool (zR s.data.toList)) ∧ w = w' := by
 have h90 : decide (90 < (s.size : Int)) = false := by simp; omega
 have HL := Lib.hid (zqx (l := s.data.toList) (by simpa using h))
 go_enter Tryz.func82, Tryz.ntmps82
 go_wp2_with (first | (go_at_call 146; refine (zlT _ _ (by unfold maxLen; omega)).mono ?_; rintro e w' ⟨rfl, rfl⟩))
 go_loop [0, 3] (fun v i => zBo s v i) (fun v _ => ztB v)
 case atStart => exact ⟨s, rfl, rfl, h, rfl⟩
 case round =>
  obtain ⟨t, rfl, rfl, ht, hq⟩ := hrel
  have HQ := Lib.hid hq
  clear hq
  have hrl : runL noSlashB t.data.toList ≤ t.size := by have := zpM noSlashB t.data.toList; simpa using this
  by_cases hlt : runL noSlashB t.data.toList < t.size
  ·have HP := Lib.hid (zrV (l := t.data.toList) (by simpa using hlt))
   cases hw : zay 20 (t.data.toList.take (runL noSlashB t.data.toList))
   ·have HF : Hid (zR s.data.toList = false) := Lib.hid (by rw [HL.out, HQ.out, HP.out, List.all_cons, hw]; rfl)
    have Hc : Hid (∀ W, Calls Tryz.prog 147 #[.string (t.extract 0 (runL noSlashB t.data.toList)), .int .i64 20] W fun e w' => e = .returned (.bool false) ∧ W = w') := Lib.hid (fun W => by
     have h1 := zgC (t.extract 0 (runL noSlashB t.data.toList)) 20 W (by omega)
     rw [zcj, List.drop_zero, Nat.sub_zero, hw] at h1; exact h1)
    clear hw
    generalize runL noSlashB t.data.toList = n at *
    go_wp2_with (first | (go_at_call 147; refine (Hc.out _).mono ?_; rintro e w' ⟨rfl, rfl⟩))
    go_ret
    exact ⟨by rw [HF.out]; rfl, rfl⟩
   ·have Hc : Hid (∀ W, Calls Tryz.prog 147 #[.string (t.extract 0 (runL noSlashB t.data.toList)), .int .i64 20] W fun e w' => e = .returned (.bool true) ∧ W = w') := Lib.hid (fun W => by
     have h1 := zgC (t.extract 0 (runL noSlashB t.data.toList)) 20 W (by omega)
     rw [zcj, List.drop_zero, Nat.sub_zero, hw] at h1; exact h1)
    obtain ⟨t2, HT⟩ : ∃ t2, Hid (t2 = t.extract (runL noSlashB t.data.toList + 1) t.size) := ⟨_, Lib.hid rfl⟩
    have HR : Hid ((zaC s.data.toList).all (zay 20) = (zaC t2.data.toList).all (zay 20)) := Lib.hid (by rw [HQ.out, HP.out, List.all_cons, hw, HT.out, zgq]; rfl)
    have hsz : t2.size < t.size := by rw [HT.out]; simp; omega
    have Hs : Hid (∀ W, Calls Tryz.prog 146 #[.string (t.extract (runL noSlashB t.data.toList + 1) t.size)] W fun e w' => e = .returned (.int .i64 (runL noSlashB t2.data.toList)) ∧ W = w') := Lib.hid (fun W => by
     rw [← HT.out]; exact zlT t2 W (by unfold maxLen; omega))
    clear hw
    generalize runL noSlashB t.data.toList = n at *
    go_wp2_with (first | (go_at_call 147; refine (Hc.out _).mono ?_; rintro e w' ⟨rfl, rfl⟩) | (go_at_call 146; refine (Hs.out _).mono ?_; rintro e w' ⟨rfl, rfl⟩))
    go_round
    case rel => exact ⟨t2, by rw [HT.out], rfl, by omega, HR.out⟩
    case measure => simp only [ztB]; have := HT.out; rw [this] at hsz; simpa [ztB] using hsz
  ·have HF : Hid (zR s.data.toList = zay 20 t.data.toList) := Lib.hid (by rw [HL.out, HQ.out, znV (by simpa using hlt)]; simp)
   go_wp2_with (first | (go_at_call 147; refine (zgC _ 20 _ (by omega)).mono ?_; rintro e w' ⟨rfl, rfl⟩))
   go_ret
   exact ⟨by rw [HF.out]; rfl, rfl⟩
theorem zhH (s : ByteArray) (w : World) :
  Calls Tryz.prog 82 #[.string s] w fun e w' => e = .returned (.bool (zR s.data.toList)) ∧ w = w' := by
 rcases Nat.lt_or_ge 90 s.size with h | h
 ·exact zrN s w h
 ·exact zpV s w h
end
section
open Go.RowKit
def ztl (w1 : World) (f : List Ex → Nat) (sub : List Ex) (n i : Value) (wr : World) : Prop := ∃ j : Nat, j ≤ sub.length ∧ i = .int .i64 j ∧ n = .int .i64 (f (sub.take j) : Nat) ∧ Below w1.heap.size w1 wr
def zDh (w1 : World) (f : List Ex → Bool) (sub : List Ex) (i : Value) (wr : World) : Prop := ∃ j : Nat, j ≤ sub.length ∧ i = .int .i64 j ∧ f (sub.take j) = false ∧ Below w1.heap.size w1 wr
theorem zmf (N : Nat) : ∀ (k : Int) (nm mr : ByteArray) (it d : Int) (sub : List Ex) (sv : Value) (w : World), nodesL sub < N → nodesL sub ≤ 1099511627776 → zas w w.heap.size sub sv →
  Calls Tryz.prog 208 #[.agg #[.int .i64 k, .string nm, .string mr, .int .i64 it, .int .i64 d, sv]] w fun e w' => e = .returned (.int .i64 (nodesL sub + 1 : Nat)) ∧ Below w.heap.size w w' := by
 induction N with
 | zero => intro k nm mr it d sub sv w hN; omega
 | succ N ih =>
  intro k nm mr it d sub sv w hN hm hs
  have hl := zI sub
  obtain ⟨p, cap, rfl, hcap, _⟩ := zaO hs
  have HS := Lib.hid hs
  have HIH := Lib.hid ih
  clear hs ih
  obtain ⟨w1, hw1, hX⟩ := zct w #[.int .i64 k, .string nm, .string mr, .int .i64 it, .int .i64 d, .slice p sub.length cap] 105
  have HW := Lib.hid hw1
  have hsz := hX.size
  have HB0 := Lib.hid hX.below
  have hc5 : w1.cell? ⟨w.heap.size, 5, none⟩ = some (.slice p sub.length cap) := hX.cell 5 (by simp)
  have HX := Lib.hid hX
  clear hX hw1
  go_enter Tryz.func208, Tryz.ntmps208
  go_wp2_with fail
  rw [HW.out]
  go_loopw [3, 4] (fun n i wr => ztl w1 (fun l => nodesL l + 1) sub n i wr) (fun _ i _ => sub.length - (intOf i).toNat)
  case atStart => exact ⟨0, by omega, rfl, rfl, Below.refl _ _⟩
  case round =>
   obtain ⟨j, hj, rfl, rfl, hBr⟩ := hrel
   have hcr := (hBr.cell (p := ⟨w.heap.size, 5, none⟩) hsz).trans hc5
   have hcc := Lib.hid hc5
   have htk := zmH sub j
   have hbd := hm
   clear hc5
   by_cases hlt : j < sub.length
   ·have hbw : Below w.heap.size w wr := HB0.out.trans (hBr.mono (by omega))
    obtain ⟨b, off, cv, rfl, g0, g1, g2, g3, g4, g5, g6⟩ := zhZ HS.out hbw j hlt
    have hn1 := zaP sub j hlt
    have hn2 := zbz sub[j]
    have hC := Lib.hid (HIH.out sub[j].kind sub[j].name sub[j].more sub[j].int sub[j].den sub[j].sub cv wr (by omega) (by omega) g6)
    have HT := Lib.hid (zjq sub j hlt)
    rw [hn2] at HT
    have hn3 : nodesL sub[j].sub + 1 ≤ nodesL sub := by omega
    clear g6 hn1 hn2
    go_wp2_with (go_at_call 208; refine (hC.out).mono ?_; rintro e w' ⟨rfl, hb1⟩)
    go_roundw
    case rel => exact ⟨j + 1, by omega, by go_num, by simp only []; rw [HT.out]; go_num, hBr.trans (hb1.mono hBr.size)⟩
    case measure => simp [intOf]; omega
   ·obtain rfl : j = sub.length := by omega
    go_wp2_with fail
    go_ret
    exact ⟨by simp [List.take_length], HB0.out.trans (hBr.mono (by omega))⟩
theorem zut (N : Nat) : ∀ (k : Int) (nm mr : ByteArray) (it d : Int) (sub : List Ex) (sv : Value) (w : World), nodesL sub < N → nodesL sub ≤ 1099511627776 → zas w w.heap.size sub sv →
  Calls Tryz.prog 266 #[.agg #[.int .i64 k, .string nm, .string mr, .int .i64 it, .int .i64 d, sv]] w fun e w' => e = .returned (.int .i64 (depthL sub + 1 : Nat)) ∧ Below w.heap.size w w' := by
 induction N with
 | zero => intro k nm mr it d sub sv w hN; omega
 | succ N ih =>
  intro k nm mr it d sub sv w hN hm hs
  have hl := zI sub
  obtain ⟨p, cap, rfl, hcap, _⟩ := zaO hs
  have HS := Lib.hid hs
  have HIH := Lib.hid ih
  clear hs ih
  obtain ⟨w1, hw1, hX⟩ := zct w #[.int .i64 k, .string nm, .string mr, .int .i64 it, .int .i64 d, .slice p sub.length cap] 105
  have HW := Lib.hid hw1
  have hsz := hX.size
  have HB0 := Lib.hid hX.below
  have hc5 : w1.cell? ⟨w.heap.size, 5, none⟩ = some (.slice p sub.length cap) := hX.cell 5 (by simp)
  have HX := Lib.hid hX
  clear hX hw1
  go_enter Tryz.func266, Tryz.ntmps266
  go_wp2_with fail
  rw [HW.out]
  go_loopw [3, 4] (fun n i wr => ztl w1 (fun l => depthL l) sub n i wr) (fun _ i _ => sub.length - (intOf i).toNat)
  case atStart => exact ⟨0, by omega, rfl, rfl, Below.refl _ _⟩
  case round =>
   obtain ⟨j, hj, rfl, rfl, hBr⟩ := hrel
   have hcr := (hBr.cell (p := ⟨w.heap.size, 5, none⟩) hsz).trans hc5
   have hcc := Lib.hid hc5
   have htk := znj sub j
   have hbd := zfi sub
   clear hc5
   by_cases hlt : j < sub.length
   ·have hbw : Below w.heap.size w wr := HB0.out.trans (hBr.mono (by omega))
    obtain ⟨b, off, cv, rfl, g0, g1, g2, g3, g4, g5, g6⟩ := zhZ HS.out hbw j hlt
    have hn1 := zaP sub j hlt
    have hn2 := zbz sub[j]
    have hC := Lib.hid (HIH.out sub[j].kind sub[j].name sub[j].more sub[j].int sub[j].den sub[j].sub cv wr (by omega) (by omega) g6)
    have HT := Lib.hid (zjK sub j hlt)
    rw [zyq] at HT
    have hn3 : depthL sub[j].sub ≤ nodesL sub[j].sub := zfi _
    have hn4 : nodesL sub[j].sub + 1 ≤ nodesL sub := by omega
    clear g6 hn1 hn2
    go_wp2_with (go_at_call 266; refine (hC.out).mono ?_; rintro e w' ⟨rfl, hb1⟩)
    go_roundw
    case rel => exact ⟨j + 1, by omega, by go_num, by simp only []; rw [HT.out]; go_num, hBr.trans (hb1.mono hBr.size)⟩
    case measure => simp [intOf]; omega
   ·obtain rfl : j = sub.length := by omega
    go_wp2_with fail
    go_ret
    exact ⟨by simp [List.take_length], HB0.out.trans (hBr.mono (by omega))⟩
theorem zxq (N : Nat) : ∀ (k : Int) (nm mr : ByteArray) (it d : Int) (sub : List Ex) (sv : Value) (w : World), nodesL sub < N → nodesL sub ≤ 1099511627776 → zas w w.heap.size sub sv →
  Calls Tryz.prog 209 #[.agg #[.int .i64 k, .string nm, .string mr, .int .i64 it, .int .i64 d, sv]] w fun e w' => e = .returned (.bool (decide (100 < nm.size) || decide (100 < mr.size) || zer sub)) ∧ Below w.heap.size w w' := by
 induction N with
 | zero => intro k nm mr it d sub sv w hN; omega
 | succ N ih =>
  intro k nm mr it d sub sv w hN hm hs
  have hl := zI sub
  obtain ⟨p, cap, rfl, hcap, _⟩ := zaO hs
  have HS := Lib.hid hs
  have HIH := Lib.hid ih
  clear hs ih
  obtain ⟨w1, hw1, hX⟩ := zct w #[.int .i64 k, .string nm, .string mr, .int .i64 it, .int .i64 d, .slice p sub.length cap] 105
  have HW := Lib.hid hw1
  have hsz := hX.size
  have HB0 := Lib.hid hX.below
  have hc5 : w1.cell? ⟨w.heap.size, 5, none⟩ = some (.slice p sub.length cap) := hX.cell 5 (by simp)
  have HX := Lib.hid hX
  clear hX hw1
  have hc1 : w1.cell? ⟨w.heap.size, 1, none⟩ = some (.string nm) := HX.out.cell 1 (by simp)
  have hc2 : w1.cell? ⟨w.heap.size, 2, none⟩ = some (.string mr) := HX.out.cell 2 (by simp)
  by_cases h1 : 100 < nm.size
  ·have h1' : decide (100 < (nm.size : Int)) = true := by simp; omega
   go_enter Tryz.func209, Tryz.ntmps209
   go_wp2_with fail
   go_ret
   exact ⟨by simp [h1], by rw [HW.out]; exact HB0.out⟩
  ·have h1' : decide (100 < (nm.size : Int)) = false := by simp; omega
   by_cases h2 : 100 < mr.size
   ·have h2' : decide (100 < (mr.size : Int)) = true := by simp; omega
    go_enter Tryz.func209, Tryz.ntmps209
    go_wp2_with fail
    go_ret
    exact ⟨by simp [h2], by rw [HW.out]; exact HB0.out⟩
   ·have h2' : decide (100 < (mr.size : Int)) = false := by simp; omega
    have H1 := Lib.hid h1
    have H2 := Lib.hid h2
    clear h1 h2
    go_enter Tryz.func209, Tryz.ntmps209
    go_wp2_with fail
    rw [HW.out]
    go_loopw [3] (fun i wr => zDh w1 zer sub i wr) (fun i _ => sub.length - (intOf i).toNat)
    case atStart => exact ⟨0, by omega, rfl, rfl, Below.refl _ _⟩
    case round =>
     obtain ⟨j, hj, rfl, hP, hBr⟩ := hrel
     have HP := Lib.hid hP
     have hcr := (hBr.cell (p := ⟨w.heap.size, 5, none⟩) hsz).trans hc5
     have hcc := Lib.hid hc5
     clear hc5 hP
     by_cases hlt : j < sub.length
     ·have hbw : Below w.heap.size w wr := HB0.out.trans (hBr.mono (by omega))
      obtain ⟨b, off, cv, rfl, g0, g1, g2, g3, g4, g5, g6⟩ := zhZ HS.out hbw j hlt
      have hn1 := zaP sub j hlt
      have hn2 := zbz sub[j]
      have hC := Lib.hid (HIH.out sub[j].kind sub[j].name sub[j].more sub[j].int sub[j].den sub[j].sub cv wr (by omega) (by omega) g6)
      rw [← zzL] at hC
      have HT := Lib.hid (zfV sub j hlt)
      clear g6 hn1 hn2
      cases hq : zkq sub[j]
      ·rw [hq] at hC HT
       go_wp2_with (go_at_call 209; refine (hC.out).mono ?_; rintro e w' ⟨rfl, hb1⟩)
       go_roundw
       case rel => exact ⟨j + 1, by omega, by go_num, by rw [HT.out, HP.out]; rfl, hBr.trans (hb1.mono hBr.size)⟩
       case measure => simp [intOf]; omega
      ·rw [hq] at hC
       have HL := Lib.hid (zzK hlt hq)
       go_wp2_with (go_at_call 209; refine (hC.out).mono ?_; rintro e w' ⟨rfl, hb1⟩)
       go_ret
       exact ⟨by simp [HL.out], HB0.out.trans ((hBr.mono (by omega)).trans (hb1.mono (by have := hBr.size; omega)))⟩
     ·obtain rfl : j = sub.length := by omega
      rw [List.take_length] at HP
      go_wp2_with fail
      go_ret
      exact ⟨by simp [HP.out, H1.out, H2.out], HB0.out.trans (hBr.mono (by omega))⟩
end
section
open Go.RowKit
def zgl (t : Ex) : Bool := decide (40 < zb t) || zkq t
theorem zgF {a b : Bool} (h : a = b) : Ending.returned (.bool a) = .returned (.bool b) := by rw [h]
theorem zur (k : Int) (nm mr : ByteArray) (it d : Int) (sub : List Ex) (sv : Value) (w : World) (hm : nodesL sub ≤ 1099511627776) (hs : zas w w.heap.size sub sv) :
  Calls Tryz.prog 131 #[.agg #[.int .i64 k, .string nm, .string mr, .int .i64 it, .int .i64 d, sv]] w fun e w' => e = .returned (.bool (zgl (.mk k nm mr it d sub))) ∧ Below w.heap.size w w' := by
 obtain ⟨p, cap, rfl, hcap, _⟩ := zaO hs
 obtain ⟨w1, hw1, hX⟩ := zct w #[.int .i64 k, .string nm, .string mr, .int .i64 it, .int .i64 d, .slice p sub.length cap] 105
 have HW := Lib.hid hw1
 have hsz := hX.size
 have HB0 := Lib.hid hX.below
 have hs1 := zbD hs hX.below hX.below.size
 have HN := Lib.hid (zmf (nodesL sub + 1) k nm mr it d sub _ w1 (by omega) hm hs1)
 have HX := Lib.hid hX
 have HS := Lib.hid hs1
 obtain ⟨n, hn⟩ : ∃ n, nodesL sub + 1 = n := ⟨_, rfl⟩
 rw [hn] at HN
 have hn1 : n ≤ 1099511627777 := by omega
 have hEq := Lib.hid hn
 clear hs hs1 hX hw1 hn
 go_enter Tryz.func131, Tryz.ntmps131
 go_wp2_with fail
 rw [HW.out]
 refine (HN.out).mono ?_
 rintro e w2 ⟨rfl, hb⟩
 have hbs := hb.size
 obtain ⟨c0, c1, c2, c3, c4, c5⟩ := zdt HX.out hb
 by_cases hgt : 40 < n
 ·have hd : decide (40 < (n : Int)) = true := by simp; omega
  go_wp2_with fail
  go_ret
  exact ⟨by simp [zgl, zb, hEq.out, hgt], HB0.out.trans (hb.mono (by omega))⟩
 ·have hd : decide (40 < (n : Int)) = false := by simp; omega
  have HG := Lib.hid hgt
  have HL := Lib.hid (zxq (nodesL sub + 1) k nm mr it d sub _ w2 (by omega) hm (zbD HS.out hb hb.size))
  clear hgt
  go_wp2_with (go_at_call 209; refine (HL.out).mono ?_; rintro e w3 ⟨rfl, hb3⟩)
  go_ret
  exact ⟨by simp [zgl, zb, zkq, hEq.out, HG.out], HB0.out.trans ((hb.mono (by omega)).trans (hb3.mono (by omega)))⟩
end
section
open Go.RowKit
def zqX (w : World) (v : Value) (l : List ByteArray) : Prop :=
 ∃ (p : Option Addr) (cap : Nat), v = .slice p l.length cap ∧ l.length ≤ cap ∧ ∀ i (h : i < l.length), ∃ b off, p = some ⟨b, off, none⟩ ∧ b < w.heap.size ∧ w.cell? ⟨b, off + i, none⟩ = some (.string l[i])
def zfd (l : List ByteArray) (s : ByteArray) : Bool := l.any fun x => decide (x = s)
theorem zCs {l : List ByteArray} {s : ByteArray} {j : Nat} (h : j < l.length) (he : l[j] = s) : zfd l s = true := by
 rw [zfd, List.any_eq_true]; exact ⟨l[j], List.getElem_mem h, by simpa using he⟩
theorem zwu {l : List ByteArray} {s : ByteArray} (h : ∀ i (hi : i < l.length), l[i] ≠ s) : zfd l s = false := by
 rw [zfd, List.any_eq_false]; intro x hx
 obtain ⟨i, hi, rfl⟩ := List.getElem_of_mem hx
 simpa using h i hi
theorem zmg (l : List ByteArray) (s : ByteArray) (v : Value) (w : World) (hl : l.length ≤ 1099511627776) (hv : zqX w v l) :
  Calls Tryz.prog 228 #[v, .string s] w fun e w' => e = .returned (.bool (zfd l s)) ∧ w = w' := by
 obtain ⟨p, cap, rfl, hc, hk⟩ := hv
 have HK := Lib.hid hk
 clear hk
 go_enter Tryz.func228, Tryz.ntmps228
 go_wp2_with fail
 go_loop [5] (fun i => ∃ j : Nat, j ≤ l.length ∧ i = .int .i64 j ∧ Hid (∀ i (hi : i < l.length), i < j → l[i] ≠ s)) (fun i => l.length - (intOf i).toNat)
 case atStart => exact ⟨0, by omega, rfl, Lib.hid (fun i _ h => absurd h (by omega))⟩
 case round =>
  obtain ⟨j, hj, rfl, HP⟩ := hrel
  by_cases hlt : j < l.length
  ·obtain ⟨b, off, rfl, _, hc⟩ := HK.out j hlt
   by_cases he : l[j] = s
   ·have HF := Lib.hid (zCs hlt he)
    rw [he] at hc
    clear he
    go_wp2_with fail
    go_ret
    exact ⟨by rw [HF.out]; rfl, rfl⟩
   ·have HE := Lib.hid he
    have f2 : (l[j].toList == s.toList) = false := (Lib.bytes_beq_false_iff _ _).2 he
    clear he
    go_wp2_with fail
    go_round
    case rel => exact ⟨j + 1, by omega, by go_num, Lib.hid (fun i hi h => by
     rcases Nat.lt_or_ge i j with h1 | h1
     ·exact HP.out i hi h1
     ·obtain rfl : i = j := by omega
      exact HE.out)⟩
    case measure => simp [intOf]; omega
  ·have HF := Lib.hid (zwu (l := l) (s := s) (fun i hi => HP.out i hi (by omega)))
   go_wp2_with fail
   go_ret
   exact ⟨by rw [HF.out]; rfl, rfl⟩
def zbR : List ByteArray := [⟨#[99, 97, 115, 101]⟩, ⟨#[99, 104, 97, 110, 99, 101]⟩, ⟨#[99, 111, 110, 102, 108, 105, 99, 116]⟩, ⟨#[101, 108, 115, 101]⟩, ⟨#[102, 97, 108, 115, 101]⟩, ⟨#[102, 108, 97, 107, 121]⟩, ⟨#[102, 117, 110]⟩, ⟨#[105, 102]⟩, ⟨#[105, 110]⟩, ⟨#[108, 101, 116]⟩, ⟨#[110, 105, 108]⟩, ⟨#[111, 102]⟩, ⟨#[112, 117, 98]⟩, ⟨#[116, 101, 115, 116]⟩, ⟨#[116, 104, 101, 110]⟩, ⟨#[116, 114, 117, 101]⟩, ⟨#[117, 115, 101]⟩]
theorem zlz (w : World) (T : TypeId) (l : List ByteArray) : zqX (w.alloc (.cells (l.map Value.string).toArray T)) (.slice (some ⟨w.heap.size, 0, none⟩) l.length l.length) l :=
 ⟨_, _, rfl, Nat.le_refl _, fun i h => ⟨w.heap.size, 0, rfl, by simp, by simp [go_sem, h]⟩⟩
theorem znR (w : World) :
  Calls Tryz.prog 229 #[] w fun e w' => ∃ v, e = .returned v ∧ Below w.heap.size w w' ∧ zqX w' v zbR := by
 go_enter Tryz.func229, Tryz.ntmps229
 go_wp2_with fail
 go_ret
 exact ⟨_, rfl, (Below.refl _ _).alloc (Nat.le_refl _) _, zlz w 9 zbR⟩
def zah (s : ByteArray) : Bool := zay 24 s.data.toList && !zfd zbR s
theorem zeR (s : ByteArray) (w : World) :
  Calls Tryz.prog 148 #[.string s] w fun e w' => e = .returned (.bool (zah s)) ∧ Below w.heap.size w w' := by
 cases hw : zay 24 s.data.toList
 ·have HR := Lib.hid (zow s w)
  rw [hw] at HR
  have HE : Hid (zah s = false) := Lib.hid (by simp [zah, hw])
  clear hw
  go_enter Tryz.func148, Tryz.ntmps148
  go_wp2_with (go_at_call 227; refine (HR.out).mono ?_; rintro e w' ⟨rfl, rfl⟩)
  go_ret
  exact ⟨by rw [HE.out]; rfl, Below.refl _ _⟩
 ·have HR := Lib.hid (zow s w)
  rw [hw] at HR
  have HE : Hid (zah s = !zfd zbR s) := Lib.hid (by simp [zah, hw])
  clear hw
  go_enter Tryz.func148, Tryz.ntmps148
  go_wp2_with (first
   | (go_at_call 227; refine (HR.out).mono ?_; rintro e w' ⟨rfl, rfl⟩)
   | (go_at_call 229; refine (znR _).mono ?_; rintro e w1 ⟨v, rfl, hb, hst⟩)
   | (go_at_call 228; refine (zmg zbR s v _ (by decide) hst).mono ?_; rintro e w' ⟨rfl, rfl⟩))
  go_ret
  exact ⟨by rw [HE.out]; rfl, hb⟩
end
section
open Go.RowKit
def zap (k : Int) : Option (Nat × Nat × Nat) :=
 if k = 1 then some (0, 1, 0) else
 if k = 2 then some (0, 1, 0) else
 if k = 3 then some (1, 0, 0) else
 if k = 4 then some (2, 0, 0) else
 if k = 5 then some (1, 1, 0) else
 if k = 6 then some (1, 0, 1) else
 if k = 7 then some (0, 0, 2) else
 if k = 8 then some (1, 0, 2) else
 if k = 9 then some (0, 0, 3) else
 if k = 10 then some (1, 0, 2) else
 if k = 11 then some (0, 0, 0) else
 if k = 12 then some (0, 0, 2) else
 if k = 13 then some (2, 0, 3) else
 if k = 14 then some (0, 2, 0) else
 if k = 15 then some (0, 0, 3) else
 none
theorem zcg {k : Int} {s : Nat × Nat × Nat} (h : zap k = some s) : (k = 1 ∧ s = (0, 1, 0)) ∨ (k = 2 ∧ s = (0, 1, 0)) ∨ (k = 3 ∧ s = (1, 0, 0)) ∨ (k = 4 ∧ s = (2, 0, 0)) ∨ (k = 5 ∧ s = (1, 1, 0)) ∨ (k = 6 ∧ s = (1, 0, 1)) ∨ (k = 7 ∧ s = (0, 0, 2)) ∨ (k = 8 ∧ s = (1, 0, 2)) ∨ (k = 9 ∧ s = (0, 0, 3)) ∨ (k = 10 ∧ s = (1, 0, 2)) ∨ (k = 11 ∧ s = (0, 0, 0)) ∨ (k = 12 ∧ s = (0, 0, 2)) ∨ (k = 13 ∧ s = (2, 0, 3)) ∨ (k = 14 ∧ s = (0, 2, 0)) ∨ (k = 15 ∧ s = (0, 0, 3)) := by
 unfold zap at h
 by_cases e1 : k = 1
 ·rw [if_pos e1] at h; exact .inl ⟨e1, (Option.some.inj h).symm⟩
 rw [if_neg e1] at h
 by_cases e2 : k = 2
 ·rw [if_pos e2] at h; exact .inr (.inl ⟨e2, (Option.some.inj h).symm⟩)
 rw [if_neg e2] at h
 by_cases e3 : k = 3
 ·rw [if_pos e3] at h; exact .inr (.inr (.inl ⟨e3, (Option.some.inj h).symm⟩))
 rw [if_neg e3] at h
 by_cases e4 : k = 4
 ·rw [if_pos e4] at h; exact .inr (.inr (.inr (.inl ⟨e4, (Option.some.inj h).symm⟩)))
 rw [if_neg e4] at h
 by_cases e5 : k = 5
 ·rw [if_pos e5] at h; exact .inr (.inr (.inr (.inr (.inl ⟨e5, (Option.some.inj h).symm⟩))))
 rw [if_neg e5] at h
 by_cases e6 : k = 6
 ·rw [if_pos e6] at h; exact .inr (.inr (.inr (.inr (.inr (.inl ⟨e6, (Option.some.inj h).symm⟩)))))
 rw [if_neg e6] at h
 by_cases e7 : k = 7
 ·rw [if_pos e7] at h; exact .inr (.inr (.inr (.inr (.inr (.inr (.inl ⟨e7, (Option.some.inj h).symm⟩))))))
 rw [if_neg e7] at h
 by_cases e8 : k = 8
 ·rw [if_pos e8] at h; exact .inr (.inr (.inr (.inr (.inr (.inr (.inr (.inl ⟨e8, (Option.some.inj h).symm⟩)))))))
 rw [if_neg e8] at h
 by_cases e9 : k = 9
 ·rw [if_pos e9] at h; exact .inr (.inr (.inr (.inr (.inr (.inr (.inr (.inr (.inl ⟨e9, (Option.some.inj h).symm⟩))))))))
 rw [if_neg e9] at h
 by_cases e10 : k = 10
 ·rw [if_pos e10] at h; exact .inr (.inr (.inr (.inr (.inr (.inr (.inr (.inr (.inr (.inl ⟨e10, (Option.some.inj h).symm⟩)))))))))
 rw [if_neg e10] at h
 by_cases e11 : k = 11
 ·rw [if_pos e11] at h; exact .inr (.inr (.inr (.inr (.inr (.inr (.inr (.inr (.inr (.inr (.inl ⟨e11, (Option.some.inj h).symm⟩))))))))))
 rw [if_neg e11] at h
 by_cases e12 : k = 12
 ·rw [if_pos e12] at h; exact .inr (.inr (.inr (.inr (.inr (.inr (.inr (.inr (.inr (.inr (.inr (.inl ⟨e12, (Option.some.inj h).symm⟩)))))))))))
 rw [if_neg e12] at h
 by_cases e13 : k = 13
 ·rw [if_pos e13] at h; exact .inr (.inr (.inr (.inr (.inr (.inr (.inr (.inr (.inr (.inr (.inr (.inr (.inl ⟨e13, (Option.some.inj h).symm⟩))))))))))))
 rw [if_neg e13] at h
 by_cases e14 : k = 14
 ·rw [if_pos e14] at h; exact .inr (.inr (.inr (.inr (.inr (.inr (.inr (.inr (.inr (.inr (.inr (.inr (.inr (.inl ⟨e14, (Option.some.inj h).symm⟩)))))))))))))
 rw [if_neg e14] at h
 by_cases e15 : k = 15
 ·rw [if_pos e15] at h; exact .inr (.inr (.inr (.inr (.inr (.inr (.inr (.inr (.inr (.inr (.inr (.inr (.inr (.inr (⟨e15, (Option.some.inj h).symm⟩))))))))))))))
 rw [if_neg e15] at h
 cases h
theorem zke {k : Int} (h : zap k = none) : (k == 1) = false ∧ (k == 2) = false ∧ (k == 3) = false ∧ (k == 4) = false ∧ (k == 5) = false ∧ (k == 6) = false ∧ (k == 7) = false ∧ (k == 8) = false ∧ (k == 9) = false ∧ (k == 10) = false ∧ (k == 11) = false ∧ (k == 12) = false ∧ (k == 13) = false ∧ (k == 14) = false ∧ (k == 15) = false := by
 unfold zap at h
 by_cases e1 : k = 1
 ·rw [if_pos e1] at h; cases h
 rw [if_neg e1] at h
 by_cases e2 : k = 2
 ·rw [if_pos e2] at h; cases h
 rw [if_neg e2] at h
 by_cases e3 : k = 3
 ·rw [if_pos e3] at h; cases h
 rw [if_neg e3] at h
 by_cases e4 : k = 4
 ·rw [if_pos e4] at h; cases h
 rw [if_neg e4] at h
 by_cases e5 : k = 5
 ·rw [if_pos e5] at h; cases h
 rw [if_neg e5] at h
 by_cases e6 : k = 6
 ·rw [if_pos e6] at h; cases h
 rw [if_neg e6] at h
 by_cases e7 : k = 7
 ·rw [if_pos e7] at h; cases h
 rw [if_neg e7] at h
 by_cases e8 : k = 8
 ·rw [if_pos e8] at h; cases h
 rw [if_neg e8] at h
 by_cases e9 : k = 9
 ·rw [if_pos e9] at h; cases h
 rw [if_neg e9] at h
 by_cases e10 : k = 10
 ·rw [if_pos e10] at h; cases h
 rw [if_neg e10] at h
 by_cases e11 : k = 11
 ·rw [if_pos e11] at h; cases h
 rw [if_neg e11] at h
 by_cases e12 : k = 12
 ·rw [if_pos e12] at h; cases h
 rw [if_neg e12] at h
 by_cases e13 : k = 13
 ·rw [if_pos e13] at h; cases h
 rw [if_neg e13] at h
 by_cases e14 : k = 14
 ·rw [if_pos e14] at h; cases h
 rw [if_neg e14] at h
 by_cases e15 : k = 15
 ·rw [if_pos e15] at h; cases h
 rw [if_neg e15] at h
 exact ⟨by simpa using e1, by simpa using e2, by simpa using e3, by simpa using e4, by simpa using e5, by simpa using e6, by simpa using e7, by simpa using e8, by simpa using e9, by simpa using e10, by simpa using e11, by simpa using e12, by simpa using e13, by simpa using e14, by simpa using e15⟩
theorem zui (w : World) : Calls Tryz.prog 302 #[.int .i64 1] w fun e w' => e = .returned (.tuple #[.agg #[.bool false, .bool false, .bool true, .bool false, .int .i64 0], .bool true]) ∧ Below w.heap.size w w' := by
 go_enter Tryz.func302, Tryz.ntmps302
 go_wp2_with fail
 exact bodyPost_ret (v := .tuple #[.agg #[.bool false, .bool false, .bool true, .bool false, .int .i64 0], .bool true]) (by simp [results, Tryz.results302, go_sem]) rfl ⟨rfl, (Below.refl _ _).alloc (Nat.le_refl _) _⟩
theorem zuh (w : World) : Calls Tryz.prog 302 #[.int .i64 2] w fun e w' => e = .returned (.tuple #[.agg #[.bool false, .bool false, .bool true, .bool false, .int .i64 0], .bool true]) ∧ Below w.heap.size w w' := by
 go_enter Tryz.func302, Tryz.ntmps302
 go_wp2_with fail
 exact bodyPost_ret (v := .tuple #[.agg #[.bool false, .bool false, .bool true, .bool false, .int .i64 0], .bool true]) (by simp [results, Tryz.results302, go_sem]) rfl ⟨rfl, (Below.refl _ _).alloc (Nat.le_refl _) _⟩
theorem zug (w : World) : Calls Tryz.prog 302 #[.int .i64 3] w fun e w' => e = .returned (.tuple #[.agg #[.bool true, .bool false, .bool false, .bool false, .int .i64 0], .bool true]) ∧ Below w.heap.size w w' := by
 go_enter Tryz.func302, Tryz.ntmps302
 go_wp2_with fail
 exact bodyPost_ret (v := .tuple #[.agg #[.bool true, .bool false, .bool false, .bool false, .int .i64 0], .bool true]) (by simp [results, Tryz.results302, go_sem]) rfl ⟨rfl, (Below.refl _ _).alloc (Nat.le_refl _) _⟩
theorem zuf (w : World) : Calls Tryz.prog 302 #[.int .i64 4] w fun e w' => e = .returned (.tuple #[.agg #[.bool true, .bool true, .bool false, .bool false, .int .i64 0], .bool true]) ∧ Below w.heap.size w w' := by
 go_enter Tryz.func302, Tryz.ntmps302
 go_wp2_with fail
 exact bodyPost_ret (v := .tuple #[.agg #[.bool true, .bool true, .bool false, .bool false, .int .i64 0], .bool true]) (by simp [results, Tryz.results302, go_sem]) rfl ⟨rfl, (Below.refl _ _).alloc (Nat.le_refl _) _⟩
theorem zue (w : World) : Calls Tryz.prog 302 #[.int .i64 5] w fun e w' => e = .returned (.tuple #[.agg #[.bool true, .bool false, .bool true, .bool false, .int .i64 0], .bool true]) ∧ Below w.heap.size w w' := by
 go_enter Tryz.func302, Tryz.ntmps302
 go_wp2_with fail
 exact bodyPost_ret (v := .tuple #[.agg #[.bool true, .bool false, .bool true, .bool false, .int .i64 0], .bool true]) (by simp [results, Tryz.results302, go_sem]) rfl ⟨rfl, (Below.refl _ _).alloc (Nat.le_refl _) _⟩
theorem zud (w : World) : Calls Tryz.prog 302 #[.int .i64 6] w fun e w' => e = .returned (.tuple #[.agg #[.bool true, .bool false, .bool false, .bool false, .int .i64 1], .bool true]) ∧ Below w.heap.size w w' := by
 go_enter Tryz.func302, Tryz.ntmps302
 go_wp2_with fail
 exact bodyPost_ret (v := .tuple #[.agg #[.bool true, .bool false, .bool false, .bool false, .int .i64 1], .bool true]) (by simp [results, Tryz.results302, go_sem]) rfl ⟨rfl, (Below.refl _ _).alloc (Nat.le_refl _) _⟩
theorem zuc (w : World) : Calls Tryz.prog 302 #[.int .i64 7] w fun e w' => e = .returned (.tuple #[.agg #[.bool false, .bool false, .bool false, .bool false, .int .i64 2], .bool true]) ∧ Below w.heap.size w w' := by
 go_enter Tryz.func302, Tryz.ntmps302
 go_wp2_with fail
 exact bodyPost_ret (v := .tuple #[.agg #[.bool false, .bool false, .bool false, .bool false, .int .i64 2], .bool true]) (by simp [results, Tryz.results302, go_sem]) rfl ⟨rfl, (Below.refl _ _).alloc (Nat.le_refl _) _⟩
theorem zub (w : World) : Calls Tryz.prog 302 #[.int .i64 8] w fun e w' => e = .returned (.tuple #[.agg #[.bool true, .bool false, .bool false, .bool false, .int .i64 2], .bool true]) ∧ Below w.heap.size w w' := by
 go_enter Tryz.func302, Tryz.ntmps302
 go_wp2_with fail
 exact bodyPost_ret (v := .tuple #[.agg #[.bool true, .bool false, .bool false, .bool false, .int .i64 2], .bool true]) (by simp [results, Tryz.results302, go_sem]) rfl ⟨rfl, (Below.refl _ _).alloc (Nat.le_refl _) _⟩
theorem zua (w : World) : Calls Tryz.prog 302 #[.int .i64 9] w fun e w' => e = .returned (.tuple #[.agg #[.bool false, .bool false, .bool false, .bool false, .int .i64 3], .bool true]) ∧ Below w.heap.size w w' := by
 go_enter Tryz.func302, Tryz.ntmps302
 go_wp2_with fail
 exact bodyPost_ret (v := .tuple #[.agg #[.bool false, .bool false, .bool false, .bool false, .int .i64 3], .bool true]) (by simp [results, Tryz.results302, go_sem]) rfl ⟨rfl, (Below.refl _ _).alloc (Nat.le_refl _) _⟩
theorem zrG (w : World) : Calls Tryz.prog 302 #[.int .i64 10] w fun e w' => e = .returned (.tuple #[.agg #[.bool true, .bool false, .bool false, .bool false, .int .i64 2], .bool true]) ∧ Below w.heap.size w w' := by
 go_enter Tryz.func302, Tryz.ntmps302
 go_wp2_with fail
 exact bodyPost_ret (v := .tuple #[.agg #[.bool true, .bool false, .bool false, .bool false, .int .i64 2], .bool true]) (by simp [results, Tryz.results302, go_sem]) rfl ⟨rfl, (Below.refl _ _).alloc (Nat.le_refl _) _⟩
theorem zrF (w : World) : Calls Tryz.prog 302 #[.int .i64 11] w fun e w' => e = .returned (.tuple #[.agg #[.bool false, .bool false, .bool false, .bool false, .int .i64 0], .bool true]) ∧ Below w.heap.size w w' := by
 go_enter Tryz.func302, Tryz.ntmps302
 go_wp2_with fail
 exact bodyPost_ret (v := .tuple #[.agg #[.bool false, .bool false, .bool false, .bool false, .int .i64 0], .bool true]) (by simp [results, Tryz.results302, go_sem]) rfl ⟨rfl, (Below.refl _ _).alloc (Nat.le_refl _) _⟩
theorem zrE (w : World) : Calls Tryz.prog 302 #[.int .i64 12] w fun e w' => e = .returned (.tuple #[.agg #[.bool false, .bool false, .bool false, .bool false, .int .i64 2], .bool true]) ∧ Below w.heap.size w w' := by
 go_enter Tryz.func302, Tryz.ntmps302
 go_wp2_with fail
 exact bodyPost_ret (v := .tuple #[.agg #[.bool false, .bool false, .bool false, .bool false, .int .i64 2], .bool true]) (by simp [results, Tryz.results302, go_sem]) rfl ⟨rfl, (Below.refl _ _).alloc (Nat.le_refl _) _⟩
theorem zrD (w : World) : Calls Tryz.prog 302 #[.int .i64 13] w fun e w' => e = .returned (.tuple #[.agg #[.bool true, .bool true, .bool false, .bool false, .int .i64 3], .bool true]) ∧ Below w.heap.size w w' := by
 go_enter Tryz.func302, Tryz.ntmps302
 go_wp2_with fail
 exact bodyPost_ret (v := .tuple #[.agg #[.bool true, .bool true, .bool false, .bool false, .int .i64 3], .bool true]) (by simp [results, Tryz.results302, go_sem]) rfl ⟨rfl, (Below.refl _ _).alloc (Nat.le_refl _) _⟩
theorem zrC (w : World) : Calls Tryz.prog 302 #[.int .i64 14] w fun e w' => e = .returned (.tuple #[.agg #[.bool false, .bool false, .bool true, .bool true, .int .i64 0], .bool true]) ∧ Below w.heap.size w w' := by
 go_enter Tryz.func302, Tryz.ntmps302
 go_wp2_with fail
 exact bodyPost_ret (v := .tuple #[.agg #[.bool false, .bool false, .bool true, .bool true, .int .i64 0], .bool true]) (by simp [results, Tryz.results302, go_sem]) rfl ⟨rfl, (Below.refl _ _).alloc (Nat.le_refl _) _⟩
theorem zrB (w : World) : Calls Tryz.prog 302 #[.int .i64 15] w fun e w' => e = .returned (.tuple #[.agg #[.bool false, .bool false, .bool false, .bool false, .int .i64 3], .bool true]) ∧ Below w.heap.size w w' := by
 go_enter Tryz.func302, Tryz.ntmps302
 go_wp2_with fail
 exact bodyPost_ret (v := .tuple #[.agg #[.bool false, .bool false, .bool false, .bool false, .int .i64 3], .bool true]) (by simp [results, Tryz.results302, go_sem]) rfl ⟨rfl, (Below.refl _ _).alloc (Nat.le_refl _) _⟩
theorem zrA (k : Int) (w : World) (h : zap k = none) : Calls Tryz.prog 302 #[.int .i64 k] w fun e w' => e = .returned (.tuple #[.agg #[.bool false, .bool false, .bool false, .bool false, .int .i64 0], .bool false]) ∧ Below w.heap.size w w' := by
 obtain ⟨e1, e2, e3, e4, e5, e6, e7, e8, e9, e10, e11, e12, e13, e14, e15⟩ := zke h
 clear h
 go_enter Tryz.func302, Tryz.ntmps302
 go_wp2_with fail
 exact bodyPost_ret (v := .tuple #[.agg #[.bool false, .bool false, .bool false, .bool false, .int .i64 0], .bool false]) (by simp [results, Tryz.results302, go_sem]) rfl ⟨rfl, (Below.refl _ _).alloc (Nat.le_refl _) _⟩
theorem zpN (k : Int) (nn nu ns : Nat) (w : World) (h : zap k = some (nn, nu, ns)) : Calls Tryz.prog 302 #[.int .i64 k] w fun e w' => e = .returned (.tuple #[.agg #[.bool (decide (1 ≤ nn)), .bool (decide (2 ≤ nn)), .bool (decide (1 ≤ nu)), .bool (decide (2 ≤ nu)), .int .i64 ns], .bool true]) ∧ Below w.heap.size w w' := by
 rcases zcg h with ⟨rfl, e⟩ | ⟨rfl, e⟩ | ⟨rfl, e⟩ | ⟨rfl, e⟩ | ⟨rfl, e⟩ | ⟨rfl, e⟩ | ⟨rfl, e⟩ | ⟨rfl, e⟩ | ⟨rfl, e⟩ | ⟨rfl, e⟩ | ⟨rfl, e⟩ | ⟨rfl, e⟩ | ⟨rfl, e⟩ | ⟨rfl, e⟩ | ⟨rfl, e⟩
 ·cases e; exact zui w
 ·cases e; exact zuh w
 ·cases e; exact zug w
 ·cases e; exact zuf w
 ·cases e; exact zue w
 ·cases e; exact zud w
 ·cases e; exact zuc w
 ·cases e; exact zub w
 ·cases e; exact zua w
 ·cases e; exact zrG w
 ·cases e; exact zrF w
 ·cases e; exact zrE w
 ·cases e; exact zrD w
 ·cases e; exact zrC w
 ·cases e; exact zrB w
theorem ztN (w : World) : Calls Tryz.prog 259 #[.int .i64 1] w fun e w' => e = .returned (.tuple #[.agg #[.int .i64 0, .int .i64 1, .int .i64 0], .bool true]) ∧ Below w.heap.size w w' := by
 go_enter Tryz.func259, Tryz.ntmps259
 go_wp2_with fail
 exact bodyPost_ret (v := .tuple #[.agg #[.int .i64 0, .int .i64 1, .int .i64 0], .bool true]) (by simp [results, Tryz.results259, go_sem]) rfl ⟨rfl, (Below.refl _ _).alloc (Nat.le_refl _) _⟩
theorem ztM (w : World) : Calls Tryz.prog 259 #[.int .i64 2] w fun e w' => e = .returned (.tuple #[.agg #[.int .i64 0, .int .i64 1, .int .i64 0], .bool true]) ∧ Below w.heap.size w w' := by
 go_enter Tryz.func259, Tryz.ntmps259
 go_wp2_with fail
 exact bodyPost_ret (v := .tuple #[.agg #[.int .i64 0, .int .i64 1, .int .i64 0], .bool true]) (by simp [results, Tryz.results259, go_sem]) rfl ⟨rfl, (Below.refl _ _).alloc (Nat.le_refl _) _⟩
theorem ztL (w : World) : Calls Tryz.prog 259 #[.int .i64 3] w fun e w' => e = .returned (.tuple #[.agg #[.int .i64 1, .int .i64 0, .int .i64 0], .bool true]) ∧ Below w.heap.size w w' := by
 go_enter Tryz.func259, Tryz.ntmps259
 go_wp2_with fail
 exact bodyPost_ret (v := .tuple #[.agg #[.int .i64 1, .int .i64 0, .int .i64 0], .bool true]) (by simp [results, Tryz.results259, go_sem]) rfl ⟨rfl, (Below.refl _ _).alloc (Nat.le_refl _) _⟩
theorem ztK (w : World) : Calls Tryz.prog 259 #[.int .i64 4] w fun e w' => e = .returned (.tuple #[.agg #[.int .i64 2, .int .i64 0, .int .i64 0], .bool true]) ∧ Below w.heap.size w w' := by
 go_enter Tryz.func259, Tryz.ntmps259
 go_wp2_with fail
 exact bodyPost_ret (v := .tuple #[.agg #[.int .i64 2, .int .i64 0, .int .i64 0], .bool true]) (by simp [results, Tryz.results259, go_sem]) rfl ⟨rfl, (Below.refl _ _).alloc (Nat.le_refl _) _⟩
theorem ztJ (w : World) : Calls Tryz.prog 259 #[.int .i64 5] w fun e w' => e = .returned (.tuple #[.agg #[.int .i64 1, .int .i64 1, .int .i64 0], .bool true]) ∧ Below w.heap.size w w' := by
 go_enter Tryz.func259, Tryz.ntmps259
 go_wp2_with fail
 exact bodyPost_ret (v := .tuple #[.agg #[.int .i64 1, .int .i64 1, .int .i64 0], .bool true]) (by simp [results, Tryz.results259, go_sem]) rfl ⟨rfl, (Below.refl _ _).alloc (Nat.le_refl _) _⟩
theorem ztI (w : World) : Calls Tryz.prog 259 #[.int .i64 6] w fun e w' => e = .returned (.tuple #[.agg #[.int .i64 1, .int .i64 0, .int .i64 1], .bool true]) ∧ Below w.heap.size w w' := by
 go_enter Tryz.func259, Tryz.ntmps259
 go_wp2_with fail
 exact bodyPost_ret (v := .tuple #[.agg #[.int .i64 1, .int .i64 0, .int .i64 1], .bool true]) (by simp [results, Tryz.results259, go_sem]) rfl ⟨rfl, (Below.refl _ _).alloc (Nat.le_refl _) _⟩
theorem ztH (w : World) : Calls Tryz.prog 259 #[.int .i64 7] w fun e w' => e = .returned (.tuple #[.agg #[.int .i64 0, .int .i64 0, .int .i64 2], .bool true]) ∧ Below w.heap.size w w' := by
 go_enter Tryz.func259, Tryz.ntmps259
 go_wp2_with fail
 exact bodyPost_ret (v := .tuple #[.agg #[.int .i64 0, .int .i64 0, .int .i64 2], .bool true]) (by simp [results, Tryz.results259, go_sem]) rfl ⟨rfl, (Below.refl _ _).alloc (Nat.le_refl _) _⟩
theorem ztG (w : World) : Calls Tryz.prog 259 #[.int .i64 8] w fun e w' => e = .returned (.tuple #[.agg #[.int .i64 1, .int .i64 0, .int .i64 2], .bool true]) ∧ Below w.heap.size w w' := by
 go_enter Tryz.func259, Tryz.ntmps259
 go_wp2_with fail
 exact bodyPost_ret (v := .tuple #[.agg #[.int .i64 1, .int .i64 0, .int .i64 2], .bool true]) (by simp [results, Tryz.results259, go_sem]) rfl ⟨rfl, (Below.refl _ _).alloc (Nat.le_refl _) _⟩
theorem ztF (w : World) : Calls Tryz.prog 259 #[.int .i64 9] w fun e w' => e = .returned (.tuple #[.agg #[.int .i64 0, .int .i64 0, .int .i64 3], .bool true]) ∧ Below w.heap.size w w' := by
 go_enter Tryz.func259, Tryz.ntmps259
 go_wp2_with fail
 exact bodyPost_ret (v := .tuple #[.agg #[.int .i64 0, .int .i64 0, .int .i64 3], .bool true]) (by simp [results, Tryz.results259, go_sem]) rfl ⟨rfl, (Below.refl _ _).alloc (Nat.le_refl _) _⟩
theorem zrn (w : World) : Calls Tryz.prog 259 #[.int .i64 10] w fun e w' => e = .returned (.tuple #[.agg #[.int .i64 1, .int .i64 0, .int .i64 2], .bool true]) ∧ Below w.heap.size w w' := by
 go_enter Tryz.func259, Tryz.ntmps259
 go_wp2_with fail
 exact bodyPost_ret (v := .tuple #[.agg #[.int .i64 1, .int .i64 0, .int .i64 2], .bool true]) (by simp [results, Tryz.results259, go_sem]) rfl ⟨rfl, (Below.refl _ _).alloc (Nat.le_refl _) _⟩
theorem zrm (w : World) : Calls Tryz.prog 259 #[.int .i64 11] w fun e w' => e = .returned (.tuple #[.agg #[.int .i64 0, .int .i64 0, .int .i64 0], .bool true]) ∧ Below w.heap.size w w' := by
 go_enter Tryz.func259, Tryz.ntmps259
 go_wp2_with fail
 exact bodyPost_ret (v := .tuple #[.agg #[.int .i64 0, .int .i64 0, .int .i64 0], .bool true]) (by simp [results, Tryz.results259, go_sem]) rfl ⟨rfl, (Below.refl _ _).alloc (Nat.le_refl _) _⟩
theorem zrl (w : World) : Calls Tryz.prog 259 #[.int .i64 12] w fun e w' => e = .returned (.tuple #[.agg #[.int .i64 0, .int .i64 0, .int .i64 2], .bool true]) ∧ Below w.heap.size w w' := by
 go_enter Tryz.func259, Tryz.ntmps259
 go_wp2_with fail
 exact bodyPost_ret (v := .tuple #[.agg #[.int .i64 0, .int .i64 0, .int .i64 2], .bool true]) (by simp [results, Tryz.results259, go_sem]) rfl ⟨rfl, (Below.refl _ _).alloc (Nat.le_refl _) _⟩
theorem zrk (w : World) : Calls Tryz.prog 259 #[.int .i64 13] w fun e w' => e = .returned (.tuple #[.agg #[.int .i64 2, .int .i64 0, .int .i64 3], .bool true]) ∧ Below w.heap.size w w' := by
 go_enter Tryz.func259, Tryz.ntmps259
 go_wp2_with fail
 exact bodyPost_ret (v := .tuple #[.agg #[.int .i64 2, .int .i64 0, .int .i64 3], .bool true]) (by simp [results, Tryz.results259, go_sem]) rfl ⟨rfl, (Below.refl _ _).alloc (Nat.le_refl _) _⟩
theorem zrj (w : World) : Calls Tryz.prog 259 #[.int .i64 14] w fun e w' => e = .returned (.tuple #[.agg #[.int .i64 0, .int .i64 2, .int .i64 0], .bool true]) ∧ Below w.heap.size w w' := by
 go_enter Tryz.func259, Tryz.ntmps259
 go_wp2_with fail
 exact bodyPost_ret (v := .tuple #[.agg #[.int .i64 0, .int .i64 2, .int .i64 0], .bool true]) (by simp [results, Tryz.results259, go_sem]) rfl ⟨rfl, (Below.refl _ _).alloc (Nat.le_refl _) _⟩
theorem zri (w : World) : Calls Tryz.prog 259 #[.int .i64 15] w fun e w' => e = .returned (.tuple #[.agg #[.int .i64 0, .int .i64 0, .int .i64 3], .bool true]) ∧ Below w.heap.size w w' := by
 go_enter Tryz.func259, Tryz.ntmps259
 go_wp2_with fail
 exact bodyPost_ret (v := .tuple #[.agg #[.int .i64 0, .int .i64 0, .int .i64 3], .bool true]) (by simp [results, Tryz.results259, go_sem]) rfl ⟨rfl, (Below.refl _ _).alloc (Nat.le_refl _) _⟩
theorem zrh (k : Int) (w : World) (h : zap k = none) : Calls Tryz.prog 259 #[.int .i64 k] w fun e w' => e = .returned (.tuple #[.agg #[.int .i64 0, .int .i64 0, .int .i64 0], .bool false]) ∧ Below w.heap.size w w' := by
 obtain ⟨e1, e2, e3, e4, e5, e6, e7, e8, e9, e10, e11, e12, e13, e14, e15⟩ := zke h
 clear h
 go_enter Tryz.func259, Tryz.ntmps259
 go_wp2_with fail
 exact bodyPost_ret (v := .tuple #[.agg #[.int .i64 0, .int .i64 0, .int .i64 0], .bool false]) (by simp [results, Tryz.results259, go_sem]) rfl ⟨rfl, (Below.refl _ _).alloc (Nat.le_refl _) _⟩
theorem zpE (k : Int) (nn nu ns : Nat) (w : World) (h : zap k = some (nn, nu, ns)) : Calls Tryz.prog 259 #[.int .i64 k] w fun e w' => e = .returned (.tuple #[.agg #[.int .i64 nn, .int .i64 nu, .int .i64 ns], .bool true]) ∧ Below w.heap.size w w' := by
 rcases zcg h with ⟨rfl, e⟩ | ⟨rfl, e⟩ | ⟨rfl, e⟩ | ⟨rfl, e⟩ | ⟨rfl, e⟩ | ⟨rfl, e⟩ | ⟨rfl, e⟩ | ⟨rfl, e⟩ | ⟨rfl, e⟩ | ⟨rfl, e⟩ | ⟨rfl, e⟩ | ⟨rfl, e⟩ | ⟨rfl, e⟩ | ⟨rfl, e⟩ | ⟨rfl, e⟩
 ·cases e; exact ztN w
 ·cases e; exact ztM w
 ·cases e; exact ztL w
 ·cases e; exact ztK w
 ·cases e; exact ztJ w
 ·cases e; exact ztI w
 ·cases e; exact ztH w
 ·cases e; exact ztG w
 ·cases e; exact ztF w
 ·cases e; exact zrn w
 ·cases e; exact zrm w
 ·cases e; exact zrl w
 ·cases e; exact zrk w
 ·cases e; exact zrj w
 ·cases e; exact zri w
end
section
open Go.RowKit
def zM (k it d : Int) : Bool :=
 if k = 1 then decide (-999999999 ≤ it) && decide (it ≤ 999999999) else
 if k = 2 then decide (it = 0) || decide (it = 1) else
 if k = 5 then decide (1 ≤ it) && decide (it ≤ 999999) else
 if k = 14 then decide (1 ≤ d) && decide (d ≤ 999999) && decide (0 ≤ it) && decide (it ≤ d) else true
theorem zrH (k : Int) (nm mr : ByteArray) (it d : Int) (sv : Value) (w : World) :
  Calls Tryz.prog 304 #[.agg #[.int .i64 k, .string nm, .string mr, .int .i64 it, .int .i64 d, sv]] w fun e w' => e = .returned (.bool (zM k it d)) ∧ Below w.heap.size w w' := by
 by_cases h1 : k = 1
 ·subst h1
  go_enter Tryz.func304, Tryz.ntmps304
  go_wp2_with fail
  all_goals
   go_ret
   exact ⟨zgF (by first | (rw [Bool.eq_iff_iff]; simp [zM]; done) | (rw [Bool.eq_iff_iff]; simp [zM]; omega)), (Below.refl _ _).alloc (Nat.le_refl _) _⟩
 by_cases h2 : k = 2
 ·subst h2
  clear h1
  go_enter Tryz.func304, Tryz.ntmps304
  go_wp2_with fail
  all_goals
   go_ret
   exact ⟨zgF (by first | (rw [Bool.eq_iff_iff]; simp [zM]; done) | (rw [Bool.eq_iff_iff]; simp [zM]; omega)), (Below.refl _ _).alloc (Nat.le_refl _) _⟩
 by_cases h3 : k = 5
 ·subst h3
  clear h1 h2
  go_enter Tryz.func304, Tryz.ntmps304
  go_wp2_with fail
  all_goals
   go_ret
   exact ⟨zgF (by first | (rw [Bool.eq_iff_iff]; simp [zM]; done) | (rw [Bool.eq_iff_iff]; simp [zM]; omega)), (Below.refl _ _).alloc (Nat.le_refl _) _⟩
 by_cases h4 : k = 14
 ·subst h4
  clear h1 h2 h3
  go_enter Tryz.func304, Tryz.ntmps304
  go_wp2_with fail
  all_goals
   go_ret
   exact ⟨zgF (by first | (rw [Bool.eq_iff_iff]; simp [zM]; done) | (rw [Bool.eq_iff_iff]; simp [zM]; omega)), (Below.refl _ _).alloc (Nat.le_refl _) _⟩
 have HE : Hid (zM k it d = true) := Lib.hid (by simp [zM, h1, h2, h3, h4])
 have f1 : (k == 1) = false := by simpa using h1
 have f2 : (k == 2) = false := by simpa using h2
 have f3 : (k == 5) = false := by simpa using h3
 have f4 : (k == 14) = false := by simpa using h4
 clear h1 h2 h3 h4
 go_enter Tryz.func304, Tryz.ntmps304
 go_wp2_with fail
 go_ret
 exact ⟨by rw [HE.out]; rfl, (Below.refl _ _).alloc (Nat.le_refl _) _⟩
end
end Go.Proofs.YtpnjjmcimjlfkaaGreatDoor
