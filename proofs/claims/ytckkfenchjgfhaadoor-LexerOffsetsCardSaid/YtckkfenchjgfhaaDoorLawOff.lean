/- LexerOffsets: for every text the law returns true. -/
import Derived.Test.YtckkfenchjgfhaaDoorLawBlank
import Derived.Test.YtckkfenchjgfhaaDoorLawSep
import Derived.Deep.RegionHeld3
import Derived.Deep.DeepCutAuto
import Derived.Outline
import Derived.IntWalk
namespace Go.Proofs.YtckkfenchjgfhaaDoor
open Go.RowKit

theorem offAwake (s : ByteArray) (w : World) (h : 300 < s.size) :
    Calls Tryd.prog 9 #[.string s] w fun e w' => e = .returned (.bool true) ∧ Below w.heap.size w w' := by
  have h1 : decide (300 < (s.size : Int)) = true := by simp; omega
  go_enter Tryd.func9, Tryd.ntmps9
  go_wp2_with (first | (go_at_call 10; refine (awake_any _).mono ?_; rintro e w' ⟨rfl, hb⟩))
  go_ret
  exact ⟨rfl, hb⟩
/-- what the round needs of a token -/
theorem lies_head {s : ByteArray} {e : Nat} {t : Tok} {ts : List Tok} (h : Lies s.data.toList e (t :: ts)) : ∃ (p : Nat) (T : ByteArray), (⟨t.text.toArray⟩ : ByteArray) = T ∧ t.pos = p ∧ e ≤ p ∧ p + T.size ≤ s.size ∧ checkL t.kind T.data.toList p = 0 ∧ s.extract p (p + T.size) = T ∧ skipL (s.extract e p).data.toList = (s.extract e p).data.toList.length ∧ Lies s.data.toList (p + T.size) ts := by
  obtain ⟨p, h1, h2, h3, ⟨k1, k2, k3⟩, h5, h6, h7⟩ := h
  have hz : (⟨t.text.toArray⟩ : ByteArray).size = t.text.length := by simp [ByteArray.size]
  rw [toList_len] at h3
  refine ⟨p, _, rfl, h1, h2, by rw [hz]; exact h3, ?_, ?_, ?_, by rw [hz]; exact h7⟩
  · exact checkL_ok k1 k2 k3 (by omega)
  · apply ByteArray.ext
    apply Array.toList_inj.1
    rw [Lib.extract_data, hz]
    simpa using h5
  · have e1 : (s.extract e p).data.toList = (s.data.toList.drop e).take (p - e) := by rw [Lib.extract_data]
    rw [e1, h6]; simp; omega
def OffRel (w2 : World) (l : List UInt8) (ts : List Tok) (en i : Value) (wr : World) : Prop := ∃ k e : Nat, k ≤ ts.length ∧ i = .int .i64 k ∧ en = .int .i64 e ∧ Lies l e (ts.drop k) ∧ Below w2.heap.size w2 wr
theorem off_keep {a0 a1 a2 : Value} {n : Nat} {w2 W W' : World} (h : W.cell? ⟨n, 0, none⟩ = some a0 ∧ W.cell? ⟨n, 1, none⟩ = some a1 ∧ W.cell? ⟨n, 2, none⟩ = some a2 ∧ n < W.heap.size ∧ Below w2.heap.size w2 W) (hb : Below W.heap.size W W') :
    W'.cell? ⟨n, 0, none⟩ = some a0 ∧ W'.cell? ⟨n, 1, none⟩ = some a1 ∧ W'.cell? ⟨n, 2, none⟩ = some a2 ∧ n < W'.heap.size ∧ Below w2.heap.size w2 W' :=
  ⟨(hb.cell (p := ⟨n, 0, none⟩) h.2.2.2.1).trans h.1, (hb.cell (p := ⟨n, 1, none⟩) h.2.2.2.1).trans h.2.1, (hb.cell (p := ⟨n, 2, none⟩) h.2.2.2.1).trans h.2.2.1, Nat.lt_of_lt_of_le h.2.2.2.1 hb.size, h.2.2.2.2.trans (hb.mono h.2.2.2.2.size)⟩
theorem off_below {a0 a1 a2 : Value} {n : Nat} {w2 W : World} (h : W.cell? ⟨n, 0, none⟩ = some a0 ∧ W.cell? ⟨n, 1, none⟩ = some a1 ∧ W.cell? ⟨n, 2, none⟩ = some a2 ∧ n < W.heap.size ∧ Below w2.heap.size w2 W) : Below w2.heap.size w2 W := h.2.2.2.2
set_option maxRecDepth 100000 in
set_option maxHeartbeats 2000000 in
theorem offMain (s : ByteArray) (m : Int) (w : World) (h : s.size ≤ 300) (hm : w.cell? ⟨0, 0, none⟩ = some (.int .i64 m)) :
    Calls Tryd.prog 9 #[.string s] w fun e w' => e = .returned (.bool true) ∧ Below w.heap.size w w' := by
  have d1 : decide (300 < (s.size : Int)) = false := by simp; omega
  have hw0 := cell_in hm
  have HM := Lib.hid hm
  clear hm
  go_enter Tryd.func9, Tryd.ntmps9
  go_wp2_with fail
  refine (scan_short s _ (by omega)).mono ?_
  rintro e w2 ⟨v1, p1, c1, rfl, hB1, hR⟩
  rcases hR with ⟨ts, hsc, rfl, rfl, ho, _, hlen⟩ | ⟨q, _, _, rfl, rfl, rfl⟩
  · have HLI := Lib.hid (scan_lies hsc)
    have HTA := Lib.hid (toks_of_owns ho)
    clear ho hsc
    obtain ⟨A, cA, rfl, _, hpos⟩ := id HTA.out
    have HPOS := Lib.hid hpos
    have HM2 : Hid (w2.cell? ⟨0, 0, none⟩ = some (.int .i64 m)) := Lib.hid ((hB1.cell (p := ⟨0, 0, none⟩) hw0).trans HM.out)
    have hw2 : 0 < w2.heap.size := by have := hB1.size; omega
    clear hpos
    have hd : ts.length ≤ 300 := by omega
    go_wp2_with fail
    go_loopw [6, 8, 29] (fun en _ i wr => OffRel w2 s.data.toList ts en i wr) (fun _ _ i _ => ts.length - (intOf i).toNat)
    case atStart => exact ⟨0, 0, by omega, rfl, rfl, HLI.out, Below.refl _ _⟩
    case round =>
      obtain ⟨k, E, hk, rfl, rfl, hlies, hBr⟩ := hrel
      have hle := lies_le hlies
      rw [toList_len] at hle
      by_cases hlt : k < ts.length
      · obtain ⟨b, off, rfl, hbl, hT⟩ := HPOS.out (by omega)
        obtain ⟨a0, a1, a2⟩ := (hT k hlt).below hBr hbl
        clear hT
        rw [List.drop_eq_getElem_cons hlt] at hlies
        obtain ⟨P, T, e1, e2, h1, h2, h3, h4, h5, h6⟩ := lies_head hlies
        rw [e1] at a1
        rw [e2] at a2
        clear hlies e1 e2
        have HC : Hid (∀ W, Calls Tryd.prog 23 #[.agg #[.int .i64 ts[k].kind, .string T, .int .i64 P]] W fun e w' => e = .returned (.int .i64 0) ∧ Below W.heap.size W w') := Lib.hid (fun W => by
          have := check_any ts[k].kind P T W
          rw [h3] at this; exact this)
        have hxs : (s.extract E P).size ≤ 300 := by simp; omega
        have HBL : Hid (∀ W, Below w2.heap.size w2 W → Calls Tryd.prog 27 #[.string (s.extract E P)] W fun e w' => e = .returned (.bool true) ∧ Below W.heap.size W w') := Lib.hid (fun W hW => blank_yes _ m W hxs ((hW.cell (p := ⟨0, 0, none⟩) hw2).trans HM2.out) h5)
        have H6 := Lib.hid h6
        clear h3 h5 h6
        generalize ts[k].kind = K at *
        have g1 : decide ((P : Int) < (E : Int)) = false := by simp; omega
        have g2 : decide ((s.size : Int) < (T.size : Int)) = false := by simp; omega
        have g1' : decide (P < E) = false := by simp; omega
        have g2' : decide (s.size < T.size) = false := by simp; omega
        have g11 : (0 : Int) ≤ (E : Int) := by omega
        have g12 : (0 : Int) ≤ (P : Int) := by omega
        have g13 : (E : Int) ≤ (P : Int) := by omega
        have g14 : (P : Int) ≤ (s.size : Int) := by omega
        have g15 : E ≤ P := by omega
        have g16 : P ≤ s.size := by omega
        have g3 : IntKind.i64.wrap ((s.size : Int) - (T.size : Int)) = (s.size : Int) - (T.size : Int) := IntWalk.i64_in _ (by omega)
        have g4 : decide ((s.size : Int) - (T.size : Int) < (P : Int)) = false := by simp; omega
        have g5 : IntKind.i64.wrap ((P : Int) + (T.size : Int)) = (P : Int) + (T.size : Int) := IntWalk.i64_in _ (by omega)
        have g6 : (0 : Int) ≤ (P : Int) + (T.size : Int) := by omega
        have g7 : ((P : Int) + (T.size : Int)).toNat = P + T.size := by omega
        have g8 : (P : Int) ≤ (P : Int) + (T.size : Int) := by omega
        have g9 : (P : Int) + (T.size : Int) ≤ s.size := by omega
        go_wp2_with fail
        have hB2 : Below w2.heap.size w2 (wr.alloc (.cells #[.int .i64 K, .string T, .int .i64 P] 35)).drew := below_drew1 (hBr.alloc (by have := hBr.size; omega) _)
        go_region_held3 (fun w' => w'.cell? ⟨wr.heap.size, 0, none⟩ = some (.int .i64 K) ∧ w'.cell? ⟨wr.heap.size, 1, none⟩ = some (.string T) ∧ w'.cell? ⟨wr.heap.size, 2, none⟩ = some (.int .i64 P) ∧ wr.heap.size < w'.heap.size ∧ Below w2.heap.size w2 w')
          (first
            | assumption
            | exact ⟨by go_simp, by go_simp, by go_simp, by go_simp, hB2⟩
            | exact off_keep (by assumption) hb3
            | exact off_keep (by assumption) hb4
            | (trace_state; fail))
          (first
            | (go_at_call 23; refine (HC.out _).mono ?_; rintro e w3 ⟨rfl, hb3⟩)
            | (go_at_call 27; refine (HBL.out _ ?_).mono ?_; (exact off_below (by assumption)); rintro e w4 ⟨rfl, hb4⟩))
        have HH := Lib.hid (show _ ∧ _ ∧ _ ∧ _ ∧ Below w2.heap.size w2 w4 by assumption)
        obtain ⟨c0, c1, c2, c3, c4⟩ := HH.out
        clear HC HBL hb4 hb3 hB2
        go_wp2_with fail
        go_roundw
        case rel => exact ⟨k + 1, P + T.size, by omega, by go_num, by go_num, H6.out, c4⟩
        case measure => simp [intOf]; omega
      · obtain rfl : k = ts.length := by omega
        have hsk : skipL (s.extract E s.size).data.toList = (s.extract E s.size).data.toList.length := by
          rw [List.drop_length] at hlies
          rw [Lib.extract_to_end]
          exact hlies.2
        have hxs : (s.extract E s.size).size ≤ 300 := by simp; omega
        have HBL := Lib.hid (blank_yes _ m wr hxs ((hBr.cell (p := ⟨0, 0, none⟩) hw2).trans HM2.out) hsk)
        clear hsk hlies
        have g11 : (0 : Int) ≤ (E : Int) := by omega
        have g14 : (E : Int) ≤ (s.size : Int) := by omega
        go_wp2_with (first | (go_at_call 27; refine (HBL.out).mono ?_; rintro e w4 ⟨rfl, hb4⟩) | (go_at_call 10; refine (awake_any _).mono ?_; rintro e w' ⟨rfl, hb⟩))
        go_ret
        exact ⟨rfl, hB1.trans ((hBr.trans ((hb4.mono hBr.size).trans (hb.mono (Nat.le_trans hBr.size hb4.size)))).mono hB1.size)⟩
  · go_wp2_with (first | (go_at_call 10; refine (awake_any _).mono ?_; rintro e w' ⟨rfl, hb⟩))
    go_ret
    exact ⟨rfl, hB1.trans (hb.mono hB1.size)⟩
theorem lawOff_any (s : ByteArray) (w : World) (hsh : w.ShapedOpen Tryd.prog) :
    Calls Tryd.prog 9 #[.string s] w fun e w' => e = .returned (.bool true) ∧ Below w.heap.size w w' := by
  obtain ⟨m, hm⟩ := Tryd.laysM145.s1_3 w hsh
  rcases Nat.lt_or_ge 300 s.size with h | h
  · exact offAwake s w h
  · exact offMain s m w h hm
end Go.Proofs.YtckkfenchjgfhaaDoor
