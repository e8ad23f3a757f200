/- The reference's Same and Equal on equal lists of tokens. -/
import Derived.Test.YtckkfenchjgfhaaDoorRefH
import Derived.Test.YtckkfenchjgfhaaDoorToks
namespace Go.Proofs.YtckkfenchjgfhaaDoor
open Go.RowKit

def sameT (a b : Tok) : Prop := a.kind = b.kind ∧ a.text = b.text
theorem same_zero (A B : Option Addr) (c d : Nat) (w : World) :
    Calls Tryd.prog 21 #[.slice A 0 c, .slice B 0 d] w fun e w' => e = .returned (.bool true) ∧ ∃ n, w.drewN n = w' := by
  go_enter Tryd.func21, Tryd.ntmps21
  go_wp2_with fail
  go_loop [5] (fun i => i = .int .i64 0) (fun _ => 0)
  case atStart => rfl
  case round =>
    subst hrel
    go_wp2_with fail
    go_ret
    exact ⟨rfl, 0, rfl⟩
set_option maxHeartbeats 400000 in
theorem same_pos (b1 o1 c1 b2 o2 c2 n : Nat) (K T : Nat → Value) (ks : Nat → Int) (ts : Nat → ByteArray) (w : World) (hn : n ≤ 9223372036854775806)
    (hK : ∀ k, K k = .int .i64 (ks k)) (hT : ∀ k, T k = .string (ts k))
    (h1 : ∀ k, k < n → w.cell? ⟨b1, o1 + k * 3, none⟩ = some (K k) ∧ w.cell? ⟨b1, o1 + k * 3 + 1, none⟩ = some (T k))
    (h2 : ∀ k, k < n → w.cell? ⟨b2, o2 + k * 3, none⟩ = some (K k) ∧ w.cell? ⟨b2, o2 + k * 3 + 1, none⟩ = some (T k)) :
    Calls Tryd.prog 21 #[.slice (some ⟨b1, o1, none⟩) n c1, .slice (some ⟨b2, o2, none⟩) n c2] w fun e w' => e = .returned (.bool true) ∧ ∃ n, w.drewN n = w' := by
  have HK := Lib.hid hK
  have HT := Lib.hid hT
  have H1 := Lib.hid h1
  have H2 := Lib.hid h2
  clear hK hT h1 h2
  go_enter Tryd.func21, Tryd.ntmps21
  go_wp2_with fail
  go_loopw [5] (fun i wr => ∃ k m : Nat, k ≤ n ∧ i = .int .i64 k ∧ wr = w.drewN m) (fun i _ => n - (intOf i).toNat)
  case atStart => exact ⟨0, 0, Nat.zero_le _, rfl, rfl⟩
  case round =>
    obtain ⟨k, m, hk, rfl, rfl⟩ := hrel
    by_cases hlt : k < n
    · obtain ⟨a1, a2⟩ := H1.out k hlt
      obtain ⟨a3, a4⟩ := H2.out k hlt
      rw [HK.out] at a1 a3
      rw [HT.out] at a2 a4
      have hki : (k : Int) < (n : Int) := by omega
      have hne : (ks k != ks k) = false := by simp
      generalize ks k = x at *
      generalize ts k = y at *
      go_wp2_with fail
      go_quiet (fail)
      go_wp2_with fail
      go_roundw
      case rel => exact ⟨k + 1, _, by omega, by go_num, rfl⟩
      case measure => simp [intOf]; omega
    · go_wp2_with fail
      go_ret
      exact ⟨rfl, m, rfl⟩
def kindOf (ts : List Tok) (k : Nat) : Int := match ts[k]? with | some t => t.kind | none => 0
def textOf (ts : List Tok) (k : Nat) : ByteArray := match ts[k]? with | some t => ⟨t.text.toArray⟩ | none => ⟨#[]⟩
def posOf (ts : List Tok) (k : Nat) : Int := match ts[k]? with | some t => t.pos | none => 0
theorem kindOf_eq {ts : List Tok} {k : Nat} (h : k < ts.length) : kindOf ts k = ts[k].kind := by simp [kindOf, h]
theorem textOf_eq {ts : List Tok} {k : Nat} (h : k < ts.length) : textOf ts k = ⟨ts[k].text.toArray⟩ := by simp [textOf, h]
theorem posOf_eq {ts : List Tok} {k : Nat} (h : k < ts.length) : posOf ts k = ts[k].pos := by simp [posOf, h]
theorem rSame_yes {u v : Value} {xs ys : List Tok} {w : World} (hn : xs.length ≤ 9223372036854775806) (ha : ToksAt w u xs) (hb : ToksAt w v ys) (hl : xs.length = ys.length)
    (hs : ∀ k (h1 : k < xs.length) (h2 : k < ys.length), xs[k].kind = ys[k].kind ∧ xs[k].text = ys[k].text) :
    Calls Tryd.prog 21 #[u, v] w fun e w' => e = .returned (.bool true) ∧ ∃ n, w.drewN n = w' := by
  obtain ⟨A, c, rfl, _, h3⟩ := ha
  obtain ⟨B, d, rfl, _, h6⟩ := hb
  rcases Nat.eq_zero_or_pos xs.length with h0 | h0
  · rw [← hl, h0]; exact same_zero A B c d w
  · obtain ⟨b1, o1, rfl, _, g1⟩ := h3 h0
    obtain ⟨b2, o2, rfl, _, g2⟩ := h6 (by omega)
    rw [← hl]
    refine same_pos b1 o1 c b2 o2 d xs.length (fun k => .int .i64 (kindOf xs k)) (fun k => .string (textOf xs k)) (kindOf xs) (textOf xs) w hn (fun _ => rfl) (fun _ => rfl) (fun k hk => ?_) (fun k hk => ?_)
    · obtain ⟨x, y, _⟩ := g1 k hk
      simp only [kindOf_eq hk, textOf_eq hk]; exact ⟨x, y⟩
    · obtain ⟨x, y, _⟩ := g2 k (by omega)
      obtain ⟨e1, e2⟩ := hs k hk (by omega)
      simp only [kindOf_eq hk, textOf_eq hk, e1, e2]; exact ⟨x, y⟩
theorem equal_zero (A B : Option Addr) (c d : Nat) (w : World) :
    Calls Tryd.prog 17 #[.slice A 0 c, .slice B 0 d] w fun e w' => e = .returned (.bool true) ∧ ∃ n, w.drewN n = w' := by
  go_enter Tryd.func17, Tryd.ntmps17
  go_wp2_with fail
  go_loop [5] (fun i => i = .int .i64 0) (fun _ => 0)
  case atStart => rfl
  case round =>
    subst hrel
    go_wp2_with (first | (go_at_call 21; refine (same_zero _ _ _ _ _).mono ?_; rintro e w' ⟨rfl, n, rfl⟩))
    go_ret
    exact ⟨rfl, n, rfl⟩
set_option maxHeartbeats 400000 in
theorem equal_pos (b1 o1 c1 b2 o2 c2 n : Nat) (ps : Nat → Int) (w : World) (hn : n ≤ 9223372036854775806)
    (h1 : ∀ k, k < n → w.cell? ⟨b1, o1 + k * 3 + 2, none⟩ = some (.int .i64 (ps k))) (h2 : ∀ k, k < n → w.cell? ⟨b2, o2 + k * 3 + 2, none⟩ = some (.int .i64 (ps k)))
    (hS : ∀ m, Calls Tryd.prog 21 #[.slice (some ⟨b1, o1, none⟩) n c1, .slice (some ⟨b2, o2, none⟩) n c2] (w.drewN m) fun e w' => e = .returned (.bool true) ∧ ∃ n, (w.drewN m).drewN n = w') :
    Calls Tryd.prog 17 #[.slice (some ⟨b1, o1, none⟩) n c1, .slice (some ⟨b2, o2, none⟩) n c2] w fun e w' => e = .returned (.bool true) ∧ ∃ n, w.drewN n = w' := by
  have H1 := Lib.hid h1
  have H2 := Lib.hid h2
  have HS := Lib.hid hS
  clear h1 h2 hS
  go_enter Tryd.func17, Tryd.ntmps17
  go_wp2_with fail
  go_loopw [5] (fun i wr => ∃ k m : Nat, k ≤ n ∧ i = .int .i64 k ∧ wr = w.drewN m) (fun i _ => n - (intOf i).toNat)
  case atStart => exact ⟨0, 0, Nat.zero_le _, rfl, rfl⟩
  case round =>
    obtain ⟨k, m, hk, rfl, rfl⟩ := hrel
    by_cases hlt : k < n
    · have a1 := H1.out k hlt
      have a2 := H2.out k hlt
      have hki : (k : Int) < (n : Int) := by omega
      have hne : (ps k != ps k) = false := by simp
      generalize ps k = x at *
      go_wp2_with fail
      go_quiet (fail)
      go_wp2_with fail
      go_roundw
      case rel => exact ⟨k + 1, _, by omega, by go_num, rfl⟩
      case measure => simp [intOf]; omega
    · go_wp2_with (first | (go_at_call 21; refine (HS.out m).mono ?_; rintro e w' ⟨rfl, n', rfl⟩))
      go_ret
      exact ⟨rfl, m + n', by simp⟩
theorem rEqual_yes {u v : Value} {xs : List Tok} {w : World} (hn : xs.length ≤ 9223372036854775806) (ha : ToksAt w u xs) (hb : ToksAt w v xs) :
    Calls Tryd.prog 17 #[u, v] w fun e w' => e = .returned (.bool true) ∧ ∃ n, w.drewN n = w' := by
  have hS := fun m => rSame_yes (w := w.drewN m) hn (ha.drewN m) (hb.drewN m) rfl (fun _ _ _ => ⟨rfl, rfl⟩)
  obtain ⟨A, c, rfl, _, h3⟩ := ha
  obtain ⟨B, d, rfl, _, h6⟩ := hb
  rcases Nat.eq_zero_or_pos xs.length with h0 | h0
  · rw [h0]; exact equal_zero A B c d w
  · obtain ⟨b1, o1, rfl, _, g1⟩ := h3 h0
    obtain ⟨b2, o2, rfl, _, g2⟩ := h6 h0
    refine equal_pos b1 o1 c b2 o2 d xs.length (posOf xs) w hn (fun k hk => ?_) (fun k hk => ?_) hS
    · rw [posOf_eq hk]; exact (g1 k hk).2.2
    · rw [posOf_eq hk]; exact (g2 k hk).2.2
end Go.Proofs.YtckkfenchjgfhaaDoor
