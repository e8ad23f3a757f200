/- between$1 of the program of layer 21, walked. text of the program of layer 21, walked. text of the program of layer 21, walked: by trees of parts. -/
import Derived.Test.YtnphcjpccieljaaGreatDoorGYc
import Derived.Test.YtnphcjpccieljaaGreatDoorGBld
namespace Go.Proofs.YtnphcjpccieljaaGreatDoor
open Go Go.RowKit
/-- texts of parts between fixed ones -/
def betwL : List ByteArray → List ByteArray → List UInt8
  | [], _ => []
  | f :: fs, [] => f.data.toList ++ betwL fs []
  | f :: fs, s :: ss => f.data.toList ++ s.data.toList ++ betwL fs ss
def nthB (l : List ByteArray) (i : Nat) : List UInt8 := if h : i < l.length then l[i].data.toList else []
theorem betwL_split : ∀ (a b ss : List ByteArray), betwL (a ++ b) ss = betwL a ss ++ betwL b (ss.drop a.length)
  | [], b, ss => by simp [betwL]
  | f :: a, b, [] => by simp [betwL, betwL_split a b []]
  | f :: a, b, s :: ss => by simp [betwL, betwL_split a b ss]
theorem betwL_succ (fs ss : List ByteArray) (q : Nat) (h : q < fs.length) : betwL (fs.take (q + 1)) ss = betwL (fs.take q) ss ++ (fs[q].data.toList ++ nthB ss q) := by
  rw [List.take_succ_eq_append_getElem h, betwL_split]
  congr 1
  rw [List.length_take, Nat.min_eq_left (by omega)]
  unfold nthB
  by_cases hq : q < ss.length
  · rw [dif_pos hq]
    rw [List.drop_eq_getElem_cons hq]
    simp [betwL]
  · rw [dif_neg hq, List.drop_eq_nil_of_le (by omega)]
    simp [betwL]
theorem betwL_take_le (fs ss : List ByteArray) (q : Nat) : (betwL (fs.take q) ss).length ≤ (betwL fs ss).length := by
  have h := betwL_split (fs.take q) (fs.drop q) ss
  rw [List.take_append_drop] at h
  rw [h, List.length_append]
  omega
abbrev bwSt (fixed subs : List ByteArray) (c0 : AV) (q : Nat) (l : List UInt8) : St := ⟨[(1, .d (.sl (encS subs))), (6, .box 1000 0), (9, .d (.sl (encS fixed))), (10, .d (.raw (.int .i64 fixed.length))), (11, .d (.raw (.int .i64 q)))], [(1000, some (.cell 61 [c0, .grow 99 (bytesR l)]))], [(99, some ⟨1, 5, l.length⟩)]⟩
set_option maxRecDepth 100000 in
set_option maxHeartbeats 8000000 in
theorem betweenF_c (e : Ex) (fixed subs : List ByteArray) (hf : fixed.length ≤ 1099511627776) (_hs : subs.length ≤ 1099511627776) (hb : (betwL fixed subs).length ≤ 140737488355328) :
    Con Tryz.prog 132 [avE e, .d (.sl (encS subs)), .at_ [.sl (encS fixed)]] (.d (.raw (.string ⟨(betwL fixed subs).toArray⟩))) := by
  refine con_of Tryz.func132 rfl (by decide +kernel) rfl (by obtain ⟨k, n, m, i, d, s⟩ := e; rfl) (by simp [Tryz.ntmps132]) fun A hA => ?_
  rw [Tryz.ntmps132] at hA
  obtain ⟨k, n, m, i, d, s⟩ := e
  refine goC 300 ?_
  simp only [go_sem, hA, avE, encE, encS_length]
  refine satC_growCell 99 1000 1 1 5 (by simp only [go_sem]) rfl rfl ?_
  refine satC_loop [1, 6, 9, 10, 11] [1000] [99] (fun y σ => ∃ (q : Nat) (c0 : AV), q ≤ fixed.length ∧ y = fixed.length - q ∧ (c0 = .d (.raw (.pointer none)) ∨ c0 = .box 1000 0) ∧ σ = bwSt fixed subs c0 q (betwL (fixed.take q) subs)) fixed.length ⟨0, _, by omega, by omega, .inl rfl, by simp only [go_sem, betwL]; rfl⟩ ?_
  rintro y σ ⟨q, c0, hq, rfl, hc0, rfl⟩
  have hcl0 : c0 = .d (.raw (.pointer none)) ∨ c0 = .box 1000 0 := hc0
  refine goC 300 ?_
  by_cases hlt : q < fixed.length
  · have k1 : decide ((q : Int) < (fixed.length : Int)) = true := decide_eq_true (by omega)
    have htl := betwL_take_le fixed subs q
    have htl1 := betwL_take_le fixed subs (q + 1)
    have hsucc := betwL_succ fixed subs q hlt
    rw [hsucc, List.length_append, List.length_append] at htl1
    have hfs : fixed[q].data.toList.length = fixed[q].size := rfl
    simp only [go_sem, hA, bwSt, encS_length, k1, Int.toNat_natCast, encS_at fixed q hlt]
    refine ⟨⟨by omega, by omega⟩, ?_⟩
    refine goWrite 300 (c0 := c0) (l := betwL (fixed.take q) subs) (s := fixed[q]) rfl rfl rfl rfl rfl rfl rfl hc0 rfl (by omega) (by simp only [go_sem, hA]) ?_
    by_cases hqs : q < subs.length
    · have k2 : decide ((q : Int) < (subs.length : Int)) = true := decide_eq_true (by omega)
      have hnth : nthB subs q = subs[q].data.toList := by unfold nthB; rw [dif_pos hqs]
      have hss : subs[q].data.toList.length = subs[q].size := rfl
      rw [hnth] at hsucc htl1
      simp only [go_sem, hA, encS_length, k2, Int.toNat_natCast, encS_at subs q hqs]
      refine ⟨⟨by omega, by omega⟩, ?_⟩
      refine goWrite 300 (c0 := .box 1000 0) (l := betwL (fixed.take q) subs ++ fixed[q].data.toList) (s := subs[q]) rfl rfl rfl rfl rfl rfl rfl (.inr rfl) (by rw [List.length_append]; rfl) (by rw [List.length_append]; omega) (by simp only [go_sem, hA]) ?_
      simp only [go_sem, hA]
      have hA1 : betwL (fixed.take (q + 1)) subs = betwL (fixed.take q) subs ++ fixed[q].data.toList ++ subs[q].data.toList := by rw [hsucc, List.append_assoc]
      have hA2 : (betwL (fixed.take q) subs ++ fixed[q].data.toList).length + subs[q].size = (betwL (fixed.take (q + 1)) subs).length := by rw [hA1, List.length_append (bs := subs[q].data.toList)]; rfl
      exact ⟨by unfold inI64; omega, fixed.length - (q + 1), by omega, q + 1, .box 1000 0, by omega, rfl, .inr rfl, by rw [hA2, ← hA1]; rfl⟩
    · have k2 : decide ((q : Int) < (subs.length : Int)) = false := decide_eq_false (by omega)
      have hnth : nthB subs q = [] := by unfold nthB; rw [dif_neg hqs]
      rw [hnth] at hsucc htl1
      simp only [go_sem, hA, encS_length, k2]
      have hA1 : betwL (fixed.take (q + 1)) subs = betwL (fixed.take q) subs ++ fixed[q].data.toList := by rw [hsucc, List.append_nil]
      have hA2 : (betwL (fixed.take q) subs).length + fixed[q].size = (betwL (fixed.take (q + 1)) subs).length := by rw [hA1, List.length_append (bs := fixed[q].data.toList)]; rfl
      exact ⟨by unfold inI64; omega, fixed.length - (q + 1), by omega, q + 1, .box 1000 0, by omega, rfl, .inr rfl, by rw [hA2, ← hA1]; rfl⟩
  · have k1 : decide ((q : Int) < (fixed.length : Int)) = false := decide_eq_false (by omega)
    obtain rfl : q = fixed.length := by omega
    simp only [go_sem, hA, bwSt, k1, List.take_length]
    refine goString 300 (c0 := c0) (l := betwL fixed subs) rfl rfl rfl rfl rfl rfl hc0 rfl (by simp only [go_sem, hA]) ?_
    simp only [go_sem, hA, Tryz.results132]
end Go.Proofs.YtnphcjpccieljaaGreatDoor

namespace Go.Proofs.YtnphcjpccieljaaGreatDoor
open Go Go.RowKit
theorem ba_of {x : ByteArray} {l : List UInt8} (h : x.data.toList = l) : x = ⟨l.toArray⟩ := by
  subst h; rfl
theorem ba_app (a b : ByteArray) : (a ++ b).data.toList = a.data.toList ++ b.data.toList := by
  rw [ByteArray.data_append, Array.toList_append]
/-- how many parts an expression has -/
def exN (k : Int) (len : Nat) : Bool := decide ((k = 7 ∨ k = 12 → len = 2) ∧ (k = 9 ∨ k = 15 → len = 3) ∧ (k = 11 → len = 0) ∧ 1 ≤ k ∧ k ≤ 15)
mutual
def fullE : Ex → Bool
  | .mk k n m i d s => okN k n m i d s.length && exN k s.length && fullL s
def fullL : List Ex → Bool
  | [] => true
  | e :: es => fullE e && fullL es
end
theorem fullL_get : ∀ {l : List Ex} (i : Nat) (h : i < l.length), fullL l = true → fullE l[i] = true
  | e :: es, 0, _, h => by simp only [fullL, Bool.and_eq_true] at h; simpa using h.1
  | e :: es, i + 1, hi, h => by
    simp only [fullL, Bool.and_eq_true] at h
    simpa using fullL_get i (by simpa using hi) h.2
mutual
theorem fullE_ok : ∀ t : Ex, fullE t = true → okE t = true
  | .mk k n m i d s, h => by
    simp only [fullE, Bool.and_eq_true] at h
    simp only [okE, Bool.and_eq_true]
    exact ⟨h.1.1, fullL_ok s h.2⟩
theorem fullL_ok : ∀ l : List Ex, fullL l = true → okL l = true
  | [], _ => rfl
  | e :: es, h => by
    simp only [fullL, Bool.and_eq_true] at h
    simp only [okL, Bool.and_eq_true]
    exact ⟨fullE_ok e h.1, fullL_ok es h.2⟩
end
/-- the function of a kind -/
def KindC (t : Ex) (L : List ByteArray) : Prop := ∃ j f cs, findIx (.int .i64 t.kind) txKeys = some j ∧ txVals[j]? = some (.fn f cs) ∧ (cs = [] ∨ ∃ fx, cs = [.at_ [.sl (encS fx)]]) ∧
    Con Tryz.prog f ([avE t, .d (.sl (encS L))] ++ cs) (.d (.raw (.string (nodeText t.kind t.name t.more t.int t.den L))))
theorem kind_plain {t : Ex} {L : List ByteArray} {f : FuncId} (j : Nat) (h1 : findIx (.int .i64 t.kind) txKeys = some j) (h2 : txVals[j]? = some (.fn f [])) (h : Con Tryz.prog f [avE t, .d (.sl (encS L))] (.d (.raw (.string (nodeText t.kind t.name t.more t.int t.den L))))) : KindC t L :=
  ⟨j, f, [], h1, h2, .inl rfl, h⟩
theorem kind_betw {t : Ex} {L fx : List ByteArray} (j : Nat) (h1 : findIx (.int .i64 t.kind) txKeys = some j) (h2 : txVals[j]? = some (.fn 132 [.at_ [.sl (encS fx)]])) (hf : fx.length ≤ 1099511627776) (hs : L.length ≤ 1099511627776) (hb : (betwL fx L).length ≤ 140737488355328)
    (he : (nodeText t.kind t.name t.more t.int t.den L).data.toList = betwL fx L) : KindC t L := by
  refine ⟨j, _, _, h1, h2, .inr ⟨fx, rfl⟩, ?_⟩
  rw [ba_of he]
  exact betweenF_c t fx L hf hs hb
theorem kind_c (t : Ex) (L : List ByteArray) (hok : okN t.kind t.name t.more t.int t.den L.length = true) (hex : exN t.kind L.length = true) (hL : sumB L ≤ 1099511627776) : KindC t L := by
  obtain ⟨har, hn, hm, hi, hd, hk5⟩ := okN_iff hok
  simp only [exN, decide_eq_true_eq] at hex
  obtain ⟨h2, h3, h0, hlo, hhi⟩ := hex
  have hc : t.kind = 1 ∨ t.kind = 2 ∨ t.kind = 3 ∨ t.kind = 4 ∨ t.kind = 6 ∨ t.kind = 7 ∨ t.kind = 8 ∨ t.kind = 9 ∨ t.kind = 10 ∨ t.kind = 11 ∨ t.kind = 12 ∨ t.kind = 13 ∨ t.kind = 14 ∨ t.kind = 15 := by omega
  rcases hc with hk | hk | hk | hk | hk | hk | hk | hk | hk | hk | hk | hk | hk | hk
  · exact kind_plain 0 (by rw [hk]; rfl) rfl (texts_1 t L hk hok hL)
  · exact kind_plain 1 (by rw [hk]; rfl) rfl (texts_2 t L hk hok hL)
  · exact kind_plain 2 (by rw [hk]; rfl) rfl (texts_3 t L hk hok hL)
  · exact kind_plain 3 (by rw [hk]; rfl) rfl (texts_4 t L hk hok hL)
  · exact kind_plain 4 (by rw [hk]; rfl) rfl (texts_6 t L hk hok hL)
  · obtain ⟨a, b, rfl⟩ : ∃ a b, L = [a, b] := by
      match L, h2 (.inl hk) with
      | [a, b], _ => exact ⟨a, b, rfl⟩
    refine kind_betw (fx := fixA) 5 (by rw [hk]; rfl) rfl (by decide) (by simp) ?_ ?_
    · simp only [sumB] at hL
      simp [betwL, fixA, bs] <;> omega
    · rw [hk]
      simp [nodeText, betwL, fixA, bs, atB]
  · exact kind_plain 6 (by rw [hk]; rfl) rfl (texts_8 t L hk hok hL)
  · obtain ⟨a, b, c, rfl⟩ : ∃ a b c, L = [a, b, c] := by
      match L, h3 (.inl hk) with
      | [a, b, c], _ => exact ⟨a, b, c, rfl⟩
    refine kind_betw (fx := fixB) 7 (by rw [hk]; rfl) rfl (by decide) (by simp) ?_ ?_
    · simp only [sumB] at hL
      simp [betwL, fixB, bs] <;> omega
    · rw [hk]
      simp [nodeText, betwL, fixB, bs, atB]
  · exact kind_plain 8 (by rw [hk]; rfl) rfl (texts_10 t L hk hok hL)
  · obtain rfl : L = [] := List.eq_nil_of_length_eq_zero (h0 hk)
    refine kind_betw (fx := fixC) 9 (by rw [hk]; rfl) rfl (by decide) (by simp) (by decide) ?_
    rw [hk]
    simp [nodeText, betwL, fixC, bs]
  · obtain ⟨a, b, rfl⟩ : ∃ a b, L = [a, b] := by
      match L, h2 (.inr hk) with
      | [a, b], _ => exact ⟨a, b, rfl⟩
    refine kind_betw (fx := fixD) 10 (by rw [hk]; rfl) rfl (by decide) (by simp) ?_ ?_
    · simp only [sumB] at hL
      simp [betwL, fixD, bs] <;> omega
    · rw [hk]
      simp [nodeText, betwL, fixD, bs, atB]
  · exact kind_plain 11 (by rw [hk]; rfl) rfl (texts_13 t L hk hok hL)
  · exact kind_plain 12 (by rw [hk]; rfl) rfl (texts_14 t L hk hok hL)
  · obtain ⟨a, b, c, rfl⟩ : ∃ a b c, L = [a, b, c] := by
      match L, h3 (.inr hk) with
      | [a, b, c], _ => exact ⟨a, b, c, rfl⟩
    refine kind_betw (fx := fixE) 13 (by rw [hk]; rfl) rfl (by decide) (by simp) ?_ ?_
    · simp only [sumB] at hL
      simp [betwL, fixE, bs] <;> omega
    · rw [hk]
      simp [nodeText, betwL, fixE, bs, atB]
end Go.Proofs.YtnphcjpccieljaaGreatDoor

namespace Go.Proofs.YtnphcjpccieljaaGreatDoor
open Go Go.RowKit
theorem txVals_ment (r : Nat) : mentL r txVals = false := rfl
theorem txVals_frz (r : Nat) (b : Blk) : frzL r b txVals = txVals := rfl
def tpR (s : List Ex) (q : Nat) : List ByteArray := txL (s.take q) ++ List.replicate (s.length - q) ⟨#[]⟩
theorem tpR_length (s : List Ex) (q : Nat) (h : q ≤ s.length) : (tpR s q).length = s.length := by
  simp [tpR, txL_length]; omega
theorem tpR_zero (s : List Ex) : List.replicate s.length [D.raw (Value.string ⟨#[]⟩)] = encS (tpR s 0) := by
  simp [tpR, txL, encS]
theorem tpR_all (s : List Ex) : tpR s s.length = txL s := by simp [tpR]
theorem tpR_set (s : List Ex) (q : Nat) (h : q < s.length) : (encS (tpR s q)).set q [.raw (.string (txE s[q]))] = encS (tpR s (q + 1)) := by
  have hl : (txL (s.take q)).length = q := by simp [txL_length]; omega
  unfold tpR encS
  rw [txL_take_succ s q h, show s.length - q = (s.length - (q + 1)) + 1 by omega, List.replicate_succ, List.map_append, List.map_append, List.map_append, List.set_append_right _ _ (by simp [hl]), List.length_map, hl, Nat.sub_self, List.map_cons, List.set_cons_zero]
  simp
theorem tpR_row (s : List Ex) (q : Nat) (h : q < s.length) : (encS (tpR s q)).getD q [] = [D.raw (Value.string ⟨#[]⟩)] := by
  have hl : (txL (s.take q)).length = q := by simp [txL_length]; omega
  rw [encS_at _ q (by rw [tpR_length s q (by omega)]; exact h)]
  simp [tpR, hl]
abbrev tpSt (k : Int) (n m : ByteArray) (i d : Int) (s : List Ex) (q : Nat) : St :=
  ⟨[(1, .mapd txKeys txVals), (2, .box 0 0), (5, .own 1003 s.length), (13, .d (.sl (encL s))), (14, .d (.raw (.int .i64 s.length))), (15, .d (.raw (.int .i64 q)))],
   [(0, some (.cell 35 (cellsX k n m i d s))), (1003, some (.row 1 9 (encS (tpR s q))))], []⟩
set_option maxRecDepth 100000 in
set_option maxHeartbeats 8000000 in
theorem text_step (N : Nat) (ih : ∀ t : Ex, nodesE t < N → nodesE t ≤ 1048576 → fullE t = true → Con Tryz.prog 59 [avE t, .mapd txKeys txVals] (.d (.raw (.string (txE t)))))
    (k : Int) (n m : ByteArray) (i d : Int) (s : List Ex) (hN : nodesE (.mk k n m i d s) < N + 1) (hb : nodesE (.mk k n m i d s) ≤ 1048576) (hok : fullE (.mk k n m i d s) = true) :
    Con Tryz.prog 59 [avE (.mk k n m i d s), .mapd txKeys txVals] (.d (.raw (.string (txE (.mk k n m i d s))))) := by
  rw [nodesE] at hN hb
  have hlen := length_le_nodesL s
  have hok' := hok
  simp only [fullE, Bool.and_eq_true] at hok
  obtain ⟨⟨hok1, hex⟩, hokL⟩ := hok
  have hLs := txL_size s (fullL_ok s hokL)
  obtain ⟨j, f, cs, hj1, hj2, hcs, hcon⟩ := kind_c (.mk k n m i d s) (txL s) (by rw [txL_length]; exact hok1) (by rw [txL_length]; exact hex) (by omega)
  have hj1 : findIx (.int .i64 k) txKeys = some j := hj1
  have hcon : Con Tryz.prog f ([avE (.mk k n m i d s), .d (.sl (encS (txL s)))] ++ cs) (.d (.raw (.string (txE (.mk k n m i d s))))) := hcon
  refine con_of Tryz.func59 rfl (by decide +kernel) rfl rfl (by simp [Tryz.ntmps59]) fun A hA => ?_
  rw [Tryz.ntmps59] at hA
  refine goC 300 ?_
  simp only [go_sem, hA, avE, encE, encL_length, Int.toNat_natCast, txVals_ment]
  refine ⟨⟨by omega, by omega, by omega⟩, ?_⟩
  refine satC_loop [1, 2, 5, 13, 14, 15] [0, 1003] [] (fun y σ => ∃ q : Nat, q ≤ s.length ∧ y = s.length - q ∧ σ = tpSt k n m i d s q) s.length ⟨0, by omega, by omega, by simp only [go_sem, tpSt, cellsX, tpR_zero]⟩ ?_
  rintro y σ ⟨q, hq, rfl, rfl⟩
  refine goC 300 ?_
  have htl := tpR_length s q hq
  by_cases hlt : q < s.length
  · have k1 : decide ((q : Int) < (s.length : Int)) = true := decide_eq_true (by omega)
    have hn1 := nodesL_get s q hlt
    simp only [go_sem, hA, tpSt, cellsX, k1, Int.toNat_natCast, encL_length, encL_at s q hlt, txVals_ment]
    refine ⟨⟨by omega, by omega⟩, goCall 300 (ih s[q] (by omega) (by omega) (fullL_get q hlt hokL)) rfl (by simp only [go_sem, avE_eq]; rfl) (by simp only [go_sem, hA]) ?_⟩
    have hst := tpR_set s q hlt
    simp only [go_sem, hA, Int.toNat_natCast, encS_length, htl, hst, tpR_row s q hlt, txVals_ment]
    exact ⟨⟨by omega, by omega⟩, hlt, by unfold inI64; omega, s.length - (q + 1), by omega, q + 1, by omega, rfl, rfl⟩
  · have k1 : decide ((q : Int) < (s.length : Int)) = false := decide_eq_false (by omega)
    obtain rfl : q = s.length := by omega
    simp only [go_sem, hA, tpSt, cellsX, k1, hj1, hj2, txVals_ment, tpR_all]
    refine ⟨rfl, goFrz 1003 ?_⟩
    have htk : (encS (txL s)).take s.length = encS (txL s) := List.take_of_length_le (by rw [encS_length, txL_length]; omega)
    rcases hcs with rfl | ⟨fx, rfl⟩
    · simp only [go_sem, txVals_frz, encS_length, txL_length]
      refine goCallF 300 hcon rfl rfl rfl (by simp only [go_sem, avE_eq]; rfl) (by simp only [go_sem, hA]) ?_
      simp only [go_sem, hA, txVals_ment, Tryz.results59]
    · simp only [go_sem, txVals_frz, encS_length, txL_length]
      refine goCallF 300 hcon rfl rfl rfl (by simp only [go_sem, avE_eq]; rfl) (by simp only [go_sem, hA]) ?_
      simp only [go_sem, hA, txVals_ment, Tryz.results59]
theorem text_c (N : Nat) : ∀ t : Ex, nodesE t < N → nodesE t ≤ 1048576 → fullE t = true → Con Tryz.prog 59 [avE t, .mapd txKeys txVals] (.d (.raw (.string (txE t)))) := by
  induction N with
  | zero => intro t h; omega
  | succ N ih => intro t h hb hok; cases t; exact text_step N ih _ _ _ _ _ _ h hb hok
end Go.Proofs.YtnphcjpccieljaaGreatDoor
