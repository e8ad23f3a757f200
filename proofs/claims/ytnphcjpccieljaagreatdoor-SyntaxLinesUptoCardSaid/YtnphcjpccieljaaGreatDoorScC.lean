/- skip, next, Check and Scan of the lexer by trees. -/
import Derived.Test.YtnphcjpccieljaaGreatDoorGYc
import Derived.Test.YtnphcjpccieljaaGreatDoorGLxC
import Derived.Test.YtnphcjpccieljaaGreatDoorGLxA
namespace Go.Proofs.YtnphcjpccieljaaGreatDoor
open Go Go.RowKit
def encT (t : LTok) : List D := [.raw (.int .i64 t.kind), .raw (.string ⟨t.text.toArray⟩), .raw (.int .i64 t.pos)]
def encTs (l : List LTok) : List (List D) := l.map encT
theorem encTs_length (l : List LTok) : (encTs l).length = l.length := by simp [encTs]
theorem encTs_at (l : List LTok) (i : Nat) (h : i < l.length) : (encTs l).getD i [] = encT l[i] := by
  simp [encTs, List.getD_eq_getElem?_getD, h]
theorem encTs_row (l : List LTok) : ∀ r ∈ encTs l, r.length = 3 := fun r h => by
  obtain ⟨t, _, rfl⟩ := List.mem_map.1 h; rfl
theorem encTs_fit (l : List LTok) : rowsFit 3 (encTs l) := by
  intro r hr
  obtain ⟨t, _, rfl⟩ := List.mem_map.1 hr
  exact ⟨rfl, fun x hx => by simp [encT] at hx; rcases hx with rfl | rfl | rfl <;> rfl⟩
theorem ba_inj' {a b : ByteArray} (h : a.data.toList = b.data.toList) : a = b := by
  apply ByteArray.ext; apply Array.ext'; exact h
theorem extract_extract0' (s : ByteArray) (k n : Nat) (_h : k + n ≤ s.size) : (s.extract k s.size).extract 0 n = s.extract k (k + n) := by
  apply ba_inj'
  rw [extract_list, extract_end, extract_list, List.drop_zero, Nat.sub_zero, show k + n - k = n by omega]
theorem skip_c (s : ByteArray) (hs : s.size ≤ 65536) : Con Tryz.prog 64 [.d (.raw (.string s))] (.d (.raw (.int .i64 (skipL s.data.toList)))) :=
  con_s1 ⟨_, Tryz.func64, by decide +kernel, rfl⟩ fun w => (skip_any s w (by unfold maxLen; omega)).mono fun e w' h => ⟨h.1, h.2 ▸ Below.refl _ _⟩
theorem next_c (s : ByteArray) (hs : s.size ≤ 65536) (h0 : 0 < s.size) : Con Tryz.prog 65 [.d (.raw (.string s))] (.tup [.agg [.d (.raw (.int .i64 (nextL s.data.toList).1)), .d (.raw (.string (s.extract 0 (nextL s.data.toList).2))), .d (.raw (.int .i64 0))], .d (.raw (.bool (okNext s.data.toList)))]) := by
  refine ⟨⟨_, Tryz.func65, by decide +kernel, rfl⟩, rfl, fun F w vs hF _ hl hv => ?_⟩
  match vs, hl with
  | [v], _ =>
    have h := hv 0 (by simp) (by simp)
    simp only [List.getElem_cons_zero] at h
    unfold HasC at h
    rw [h.raw_eq]
    refine (next_any s w (by unfold maxLen; omega) h0).mono fun e w' h' => ⟨_, h'.1, ?_, h'.2⟩
    refine .tup _ [_, _] rfl fun i hi hv => ?_
    match i, hi with
    | 0, _ =>
      refine .agg _ [_, _, _] rfl fun i hi hv => ?_
      match i, hi with
      | 0, _ => exact .d (.raw _)
      | 1, _ => exact .d (.raw _)
      | 2, _ => exact .d (.raw _)
    | 1, _ => exact .d (.raw _)
/-- what Scan answers: tokens, where an error is, the error -/
def scanX (s : ByteArray) : List LTok × Int × Int :=
  if 65536 < s.size then ([], 0, 4) else match (scanAll s.data.toList).2 with
    | none => ((scanAll s.data.toList).1, 0, 0)
    | some p => ([], p, 3)
abbrev scSt (s : ByteArray) (k : Nat) (ts : List LTok) : St := ⟨[(0, .d (.raw (.string s))), (5, .grow 99 (encTs ts)), (6, .d (.raw (.int .i64 k)))], [], [(99, some ⟨3, 50, ts.length⟩)]⟩
set_option maxRecDepth 100000 in
set_option maxHeartbeats 8000000 in
theorem scan_c (s : ByteArray) : Con Tryz.prog 32 [.d (.raw (.string s))] (.tup [.d (.sl (encTs (scanX s).1)), .d (.raw (.int .i64 (scanX s).2.1)), .d (.raw (.int .i64 (scanX s).2.2))]) := by
  refine con_of Tryz.func32 rfl (by decide +kernel) rfl rfl (by simp [Tryz.ntmps32]) fun A hA => ?_
  rw [Tryz.ntmps32] at hA
  refine goC 300 ?_
  by_cases hb : 65536 < s.size
  · have g0 : decide ((65536 : Int) < (s.size : Int)) = true := decide_eq_true (by omega)
    have hx : scanX s = ([], 0, 4) := if_pos hb
    simp only [go_sem, hA, g0, hx, Tryz.results32]
    rfl
  have g0 : decide ((65536 : Int) < (s.size : Int)) = false := decide_eq_false (by omega)
  have hsl : s.data.toList.length = s.size := rfl
  have hk0 := skipL_le s.data.toList
  have csk := skip_c s (by omega)
  simp only [go_sem, hA, g0]
  refine goCall 300 csk rfl (by simp only [go_sem]) (by simp only [go_sem, hA]) ?_
  simp only [go_sem, hA]
  refine satC_growTmp 99 5 3 50 (by rfl) (by rfl) ?_
  refine satC_loop [0, 5, 6] [] [99] (fun y σ => ∃ k f acc, k ≤ s.size ∧ s.size - k < f ∧ acc.length ≤ k ∧ scanT f (s.data.toList.drop k) k acc = scanAll s.data.toList ∧ y = s.size - k ∧ σ = scSt s k acc) (s.size - skipL s.data.toList) ⟨skipL s.data.toList, s.size + 1, [], by omega, by omega, Nat.zero_le _, by unfold scanAll; rw [hsl], rfl, by simp only [go_sem, scSt]; rfl⟩ ?_
  rintro y σ ⟨k, f, acc, hk, hf, hacc, hS, rfl, rfl⟩
  refine goC 300 ?_
  by_cases hlt : k < s.size
  case neg =>
    have k1 : decide ((k : Int) < (s.size : Int)) = false := decide_eq_false (by omega)
    have hr : scanAll s.data.toList = (acc, none) := by rw [← hS]; exact scanT_end (by simp; omega)
    have hx : scanX s = (acc, 0, 0) := by unfold scanX; rw [if_neg hb, hr]
    simp only [go_sem, hA, scSt, k1, hx, Tryz.results32]
  have k1 : decide ((k : Int) < (s.size : Int)) = true := decide_eq_true (by omega)
  obtain ⟨g, rfl⟩ : ∃ g, f = g + 1 := ⟨f - 1, by omega⟩
  have hdl : (s.extract k s.size).data.toList = s.data.toList.drop k := extract_end s k
  have hsz : (s.extract k s.size).size = s.size - k := by simp
  have hrl : (s.data.toList.drop k).length = s.size - k := by rw [List.length_drop, hsl]
  have cn := next_c (s.extract k s.size) (by omega) (by omega)
  rw [hdl] at cn
  obtain ⟨n, hn⟩ : ∃ n, (nextL (s.data.toList.drop k)).2 = n := ⟨_, rfl⟩
  obtain ⟨kd, hkd⟩ : ∃ kd, (nextL (s.data.toList.drop k)).1 = kd := ⟨_, rfl⟩
  have hnle : n ≤ s.size - k := by rw [← hn, ← hrl]; exact nextL_le _ (by omega)
  rw [hn, hkd, extract_extract0' s k n (by omega)] at cn
  cases ho : okNext (s.data.toList.drop k) with
  | false =>
    have hr : scanAll s.data.toList = ([], some k) := by rw [← hS]; exact scanT_err (by omega) ho
    have hx : scanX s = ([], (k : Int), 3) := by unfold scanX; rw [if_neg hb, hr]
    rw [ho] at cn
    simp only [go_sem, hA, scSt, k1]
    refine ⟨⟨by omega, by omega, by omega⟩, ?_⟩
    refine goCall 300 cn rfl (by simp only [go_sem, Int.toNat_natCast]) (by simp only [go_sem, hA]) ?_
    simp only [go_sem, hA, hx, Tryz.results32]
    rfl
  | true =>
    have hn0 : 0 < n := by rw [← hn]; exact okNext_pos ho
    have hadv : advL (s.data.toList.drop k) = n + skipL (s.data.toList.drop (k + n)) := by unfold advL; rw [hn, List.drop_drop]
    have hal := advL_le (s.data.toList.drop k) (by omega)
    have hst := scanT_step (f := g) (p := k) (acc := acc) (by omega) ho
    rw [hst, hadv, List.drop_drop] at hS
    have htok : tokL (s.data.toList.drop k) k = ⟨kd, (s.data.toList.drop k).take n, k⟩ := by unfold tokL; rw [hkd, hn]
    have hdl2 : (s.extract (k + n) s.size).data.toList = s.data.toList.drop (k + n) := extract_end s (k + n)
    have csk2 := skip_c (s.extract (k + n) s.size) (by simp; omega)
    rw [hdl2] at csk2
    obtain ⟨m, hm⟩ : ∃ m, skipL (s.data.toList.drop (k + n)) = m := ⟨_, rfl⟩
    rw [hadv, hrl, hm] at hal
    rw [hm, htok] at hS
    rw [hm] at csk2
    have htx : (⟨((s.data.toList.drop k).take n).toArray⟩ : ByteArray) = s.extract k (k + n) := by
      apply ba_inj'
      rw [extract_list]; simp
    have hzs : (s.extract k (k + n)).size = n := by simp; omega
    have hfit : rowsFit 3 [[D.raw (.int .i64 kd), .raw (.string (s.extract k (k + n))), .raw (.int .i64 k)]] := by
      have := encTs_fit [⟨kd, (s.data.toList.drop k).take n, k⟩]
      simpa only [encTs, encT, List.map_cons, List.map_nil, htx] using this
    rw [ho] at cn
    simp only [go_sem, hA, scSt, k1]
    refine ⟨⟨by omega, by omega, by omega⟩, ?_⟩
    refine goCall 300 cn rfl (by simp only [go_sem, Int.toNat_natCast]) (by simp only [go_sem, hA]) ?_
    simp only [go_sem, hA, encTs_length, hzs]
    have hkn : ((k : Int) + (n : Int)).toNat = k + n := by omega
    refine ⟨⟨hfit, encTs_row _, by omega⟩, by unfold inI64; omega, ⟨by omega, by omega, by omega⟩, ?_⟩
    simp only [hkn]
    refine goCall 300 csk2 rfl (by simp only [go_sem, Int.toNat_natCast]) (by simp only [go_sem, hA]) ?_
    simp only [go_sem, hA]
    refine ⟨by unfold inI64; omega, s.size - (k + n + m), by omega, k + n + m, g, acc ++ [⟨kd, (s.data.toList.drop k).take n, k⟩], by omega, by omega, by simp; omega, by rw [← hS, show k + (n + m) = k + n + m by omega], rfl, ?_⟩
    have he : encTs (acc ++ [⟨kd, (s.data.toList.drop k).take n, k⟩]) = encTs acc ++ [[.raw (.int .i64 kd), .raw (.string (s.extract k (k + n))), .raw (.int .i64 k)]] := by
      simp [encTs, encT, htx]
    rw [he]
    simp only [List.length_append, List.length_singleton]
    rfl
end Go.Proofs.YtnphcjpccieljaaGreatDoor
