/- Texts of this proof, part 15: what the proof uses of them. -/
import Derived.Test.YtnnolijagpakiaaGreatDoorRan
import Derived.Test.YtnnolijagpakiaaGreatDoorRam
import Derived.Test.YtnnolijagpakiaaGreatDoorRag
namespace Go.Proofs.YtnnolijagpakiaaGreatDoor
open Go Go.RowKit
def betwL : List ByteArray → List ByteArray → List UInt8
 | [], _ => []
 | f :: fs, [] => f.data.toList ++ betwL fs []
 | f :: fs, s :: ss => f.data.toList ++ s.data.toList ++ betwL fs ss
def nthB (l : List ByteArray) (i : Nat) : List UInt8 := if h : i < l.length then l[i].data.toList else []
theorem betwL_split : ∀ (a b ss : List ByteArray), betwL (a ++ b) ss = betwL a ss ++ betwL b (ss.drop a.length)
 | [], b, ss => by simp [betwL]
 | f :: a, b, [] => by simp [betwL, betwL_split a b []]
 | f :: a, b, s :: ss => by simp [betwL, betwL_split a b ss]
theorem betwL_succ (fs ss : List ByteArray) (q : Nat) (h : q < fs.length) : betwL (fs.take (q + 1)) ss = betwL (fs.take q) ss ++ (fs[q].data.toList ++ nthB ss q) := by
 rw [List.take_succ_eq_append_getElem h, betwL_split]
 congr 1
 rw [List.length_take, Nat.min_eq_left (by omega)]
 unfold nthB
 by_cases hq : q < ss.length
 ·rw [dif_pos hq]
  rw [List.drop_eq_getElem_cons hq]
  simp [betwL]
 ·rw [dif_neg hq, List.drop_eq_nil_of_le (by omega)]
  simp [betwL]
theorem betwL_take_le (fs ss : List ByteArray) (q : Nat) : (betwL (fs.take q) ss).length ≤ (betwL fs ss).length := by
 have h := betwL_split (fs.take q) (fs.drop q) ss
 rw [List.take_append_drop] at h
 rw [h, List.length_append]
 omega
abbrev bwSt (fixed subs : List ByteArray) (c0 : AV) (q : Nat) (l : List UInt8) : St := ⟨[(1, .d (.sl (encS subs))), (6, .box 1000 0), (9, .d (.sl (encS fixed))), (10, .d (.raw (.int .i64 fixed.length))), (11, .d (.raw (.int .i64 q)))], [(1000, some (.cell 91 [c0, .grow 99 (bytesR l)]))], [(99, some ⟨1, 5, l.length, none⟩)]⟩
set_option maxRecDepth 100000 in
set_option maxHeartbeats 8000000 in
theorem betweenF_c (e : Ex) (fixed subs : List ByteArray) (hf : fixed.length ≤ 1099511627776) (_hs : subs.length ≤ 1099511627776) (hb : (betwL fixed subs).length ≤ 140737488355328) :
  Con Tryz.prog 153 [avE e, .d (.sl (encS subs)), .at_ [.sl (encS fixed)]] (.d (.raw (.string ⟨(betwL fixed subs).toArray⟩))) := by
 refine con_of Tryz.func153 rfl (by decide +kernel) rfl (by obtain ⟨k, n, m, i, d, s⟩ := e; rfl) (by simp [Tryz.ntmps153]) fun A hA => ?_
 rw [Tryz.ntmps153] at hA
 obtain ⟨k, n, m, i, d, s⟩ := e
 refine goC 300 ?_
 simp only [go_sem, hA, avE, encE, encS_length]
 refine satC_growCell 99 1000 1 1 5 (by simp only [go_sem]) rfl rfl ?_
 refine satC_loop [1, 6, 9, 10, 11] [1000] [99] (fun y σ => ∃ (q : Nat) (c0 : AV), q ≤ fixed.length ∧ y = fixed.length - q ∧ (c0 = .d (.raw (.pointer none)) ∨ c0 = .box 1000 0) ∧ σ = bwSt fixed subs c0 q (betwL (fixed.take q) subs)) fixed.length ⟨0, _, by omega, by omega, .inl rfl, by simp only [go_sem, betwL]; rfl⟩ ?_
 rintro y σ ⟨q, c0, hq, rfl, hc0, rfl⟩
 have hcl0 : c0 = .d (.raw (.pointer none)) ∨ c0 = .box 1000 0 := hc0
 refine goC 300 ?_
 by_cases hlt : q < fixed.length
 ·have k1 : decide ((q : Int) < (fixed.length : Int)) = true := decide_eq_true (by omega)
  have htl := betwL_take_le fixed subs q
  have htl1 := betwL_take_le fixed subs (q + 1)
  have hsucc := betwL_succ fixed subs q hlt
  rw [hsucc, List.length_append, List.length_append] at htl1
  have hfs : fixed[q].data.toList.length = fixed[q].size := rfl
  simp only [go_sem, hA, bwSt, encS_length, k1, Int.toNat_natCast, encS_at fixed q hlt]
  refine ⟨⟨by omega, by omega⟩, ?_⟩
  refine goWrite 300 (c0 := c0) (l := betwL (fixed.take q) subs) (s := fixed[q]) rfl rfl rfl rfl rfl rfl rfl hc0 rfl (by omega) (by simp only [go_sem, hA]) ?_
  by_cases hqs : q < subs.length
  ·have k2 : decide ((q : Int) < (subs.length : Int)) = true := decide_eq_true (by omega)
   have hnth : nthB subs q = subs[q].data.toList := by unfold nthB; rw [dif_pos hqs]
   have hss : subs[q].data.toList.length = subs[q].size := rfl
   rw [hnth] at hsucc htl1
   simp only [go_sem, hA, encS_length, k2, Int.toNat_natCast, encS_at subs q hqs]
   refine ⟨⟨by omega, by omega⟩, ?_⟩
   refine goWrite 300 (c0 := .box 1000 0) (l := betwL (fixed.take q) subs ++ fixed[q].data.toList) (s := subs[q]) rfl rfl rfl rfl rfl rfl rfl (.inr rfl) (by rw [List.length_append]; rfl) (by rw [List.length_append]; omega) (by simp only [go_sem, hA]) ?_
   simp only [go_sem, hA]
   have hA1 : betwL (fixed.take (q + 1)) subs = betwL (fixed.take q) subs ++ fixed[q].data.toList ++ subs[q].data.toList := by rw [hsucc, List.append_assoc]
   have hA2 : (betwL (fixed.take q) subs ++ fixed[q].data.toList).length + subs[q].size = (betwL (fixed.take (q + 1)) subs).length := by rw [hA1, List.length_append (bs := subs[q].data.toList)]; rfl
   exact ⟨by unfold inI64; omega, fixed.length - (q + 1), by omega, q + 1, .box 1000 0, by omega, rfl, .inr rfl, by rw [hA2, ← hA1]; rfl⟩
  ·have k2 : decide ((q : Int) < (subs.length : Int)) = false := decide_eq_false (by omega)
   have hnth : nthB subs q = [] := by unfold nthB; rw [dif_neg hqs]
   rw [hnth] at hsucc htl1
   simp only [go_sem, hA, encS_length, k2]
   have hA1 : betwL (fixed.take (q + 1)) subs = betwL (fixed.take q) subs ++ fixed[q].data.toList := by rw [hsucc, List.append_nil]
   have hA2 : (betwL (fixed.take q) subs).length + fixed[q].size = (betwL (fixed.take (q + 1)) subs).length := by rw [hA1, List.length_append (bs := fixed[q].data.toList)]; rfl
   exact ⟨by unfold inI64; omega, fixed.length - (q + 1), by omega, q + 1, .box 1000 0, by omega, rfl, .inr rfl, by rw [hA2, ← hA1]; rfl⟩
 ·have k1 : decide ((q : Int) < (fixed.length : Int)) = false := decide_eq_false (by omega)
  obtain rfl : q = fixed.length := by omega
  simp only [go_sem, hA, bwSt, k1, List.take_length]
  refine goString 300 (c0 := c0) (l := betwL fixed subs) rfl rfl rfl rfl rfl rfl hc0 rfl (by simp only [go_sem, hA]) ?_
  simp only [go_sem, hA, Tryz.results153]
end Go.Proofs.YtnnolijagpakiaaGreatDoor
namespace Go.Proofs.YtnnolijagpakiaaGreatDoor
open Go Go.RowKit
theorem ba_of {x : ByteArray} {l : List UInt8} (h : x.data.toList = l) : x = ⟨l.toArray⟩ := by
 subst h; rfl
theorem ba_app (a b : ByteArray) : (a ++ b).data.toList = a.data.toList ++ b.data.toList := by
 rw [ByteArray.data_append, Array.toList_append]
def exN (k : Int) (len : Nat) : Bool := decide ((k = 7 ∨ k = 12 → len = 2) ∧ (k = 9 ∨ k = 15 → len = 3) ∧ (k = 11 → len = 0) ∧ 1 ≤ k ∧ k ≤ 15)
mutual
def fullE : Ex → Bool
 | .mk k n m i d s => okN k n m i d s.length && exN k s.length && fullL s
def fullL : List Ex → Bool
 | [] => true
 | e :: es => fullE e && fullL es
end
theorem fullL_get : ∀ {l : List Ex} (i : Nat) (h : i < l.length), fullL l = true → fullE l[i] = true
 | e :: es, 0, _, h => by simp only [fullL, Bool.and_eq_true] at h; simpa using h.1
 | e :: es, i + 1, hi, h => by
  simp only [fullL, Bool.and_eq_true] at h
  simpa using fullL_get i (by simpa using hi) h.2
mutual
theorem fullE_ok : ∀ t : Ex, fullE t = true → okE t = true
 | .mk k n m i d s, h => by
  simp only [fullE, Bool.and_eq_true] at h
  simp only [okE, Bool.and_eq_true]
  exact ⟨h.1.1, fullL_ok s h.2⟩
theorem fullL_ok : ∀ l : List Ex, fullL l = true → okL l = true
 | [], _ => rfl
 | e :: es, h => by
  simp only [fullL, Bool.and_eq_true] at h
  simp only [okL, Bool.and_eq_true]
  exact ⟨fullE_ok e h.1, fullL_ok es h.2⟩
end
def KindC (t : Ex) (L : List ByteArray) : Prop := ∃ j f cs, findIx (.int .i64 t.kind) txKeys = some j ∧ txVals[j]? = some (.fn f cs) ∧ (cs = [] ∨ ∃ fx, cs = [.at_ [.sl (encS fx)]]) ∧
  Con Tryz.prog f ([avE t, .d (.sl (encS L))] ++ cs) (.d (.raw (.string (nodeText t.kind t.name t.more t.int t.den L))))
theorem kind_plain {t : Ex} {L : List ByteArray} {f : FuncId} (j : Nat) (h1 : findIx (.int .i64 t.kind) txKeys = some j) (h2 : txVals[j]? = some (.fn f [])) (h : Con Tryz.prog f [avE t, .d (.sl (encS L))] (.d (.raw (.string (nodeText t.kind t.name t.more t.int t.den L))))) : KindC t L :=
 ⟨j, f, [], h1, h2, .inl rfl, h⟩
theorem kind_betw {t : Ex} {L fx : List ByteArray} (j : Nat) (h1 : findIx (.int .i64 t.kind) txKeys = some j) (h2 : txVals[j]? = some (.fn 153 [.at_ [.sl (encS fx)]])) (hf : fx.length ≤ 1099511627776) (hs : L.length ≤ 1099511627776) (hb : (betwL fx L).length ≤ 140737488355328)
  (he : (nodeText t.kind t.name t.more t.int t.den L).data.toList = betwL fx L) : KindC t L := by
 refine ⟨j, _, _, h1, h2, .inr ⟨fx, rfl⟩, ?_⟩
 rw [ba_of he]
 exact betweenF_c t fx L hf hs hb
theorem kind_c (t : Ex) (L : List ByteArray) (hok : okN t.kind t.name t.more t.int t.den L.length = true) (hex : exN t.kind L.length = true) (hL : sumB L ≤ 1099511627776) : KindC t L := by
 obtain ⟨har, hn, hm, hi, hd, hk5⟩ := okN_iff hok
 simp only [exN, decide_eq_true_eq] at hex
 obtain ⟨h2, h3, h0, hlo, hhi⟩ := hex
 have hc : t.kind = 1 ∨ t.kind = 2 ∨ t.kind = 3 ∨ t.kind = 4 ∨ t.kind = 6 ∨ t.kind = 7 ∨ t.kind = 8 ∨ t.kind = 9 ∨ t.kind = 10 ∨ t.kind = 11 ∨ t.kind = 12 ∨ t.kind = 13 ∨ t.kind = 14 ∨ t.kind = 15 := by omega
 rcases hc with hk | hk | hk | hk | hk | hk | hk | hk | hk | hk | hk | hk | hk | hk
 ·exact kind_plain 0 (by rw [hk]; rfl) rfl (texts_1 t L hk hok hL)
 ·exact kind_plain 1 (by rw [hk]; rfl) rfl (texts_2 t L hk hok hL)
 ·exact kind_plain 2 (by rw [hk]; rfl) rfl (texts_3 t L hk hok hL)
 ·exact kind_plain 3 (by rw [hk]; rfl) rfl (texts_4 t L hk hok hL)
 ·exact kind_plain 4 (by rw [hk]; rfl) rfl (texts_6 t L hk hok hL)
 ·obtain ⟨a, b, rfl⟩ : ∃ a b, L = [a, b] := by
   match L, h2 (.inl hk) with
   | [a, b], _ => exact ⟨a, b, rfl⟩
  refine kind_betw (fx := fixA) 5 (by rw [hk]; rfl) rfl (by decide) (by simp) ?_ ?_
  ·simp only [sumB] at hL
   simp [betwL, fixA, bs] <;> omega
  ·rw [hk]
   simp [nodeText, betwL, fixA, bs, atB]
 ·exact kind_plain 6 (by rw [hk]; rfl) rfl (texts_8 t L hk hok hL)
 ·obtain ⟨a, b, c, rfl⟩ : ∃ a b c, L = [a, b, c] := by
   match L, h3 (.inl hk) with
   | [a, b, c], _ => exact ⟨a, b, c, rfl⟩
  refine kind_betw (fx := fixB) 7 (by rw [hk]; rfl) rfl (by decide) (by simp) ?_ ?_
  ·simp only [sumB] at hL
   simp [betwL, fixB, bs] <;> omega
  ·rw [hk]
   simp [nodeText, betwL, fixB, bs, atB]
 ·exact kind_plain 8 (by rw [hk]; rfl) rfl (texts_10 t L hk hok hL)
 ·obtain rfl : L = [] := List.eq_nil_of_length_eq_zero (h0 hk)
  refine kind_betw (fx := fixC) 9 (by rw [hk]; rfl) rfl (by decide) (by simp) (by decide) ?_
  rw [hk]
  simp [nodeText, betwL, fixC, bs]
 ·obtain ⟨a, b, rfl⟩ : ∃ a b, L = [a, b] := by
   match L, h2 (.inr hk) with
   | [a, b], _ => exact ⟨a, b, rfl⟩
  refine kind_betw (fx := fixD) 10 (by rw [hk]; rfl) rfl (by decide) (by simp) ?_ ?_
  ·simp only [sumB] at hL
   simp [betwL, fixD, bs] <;> omega
  ·rw [hk]
   simp [nodeText, betwL, fixD, bs, atB]
 ·exact kind_plain 11 (by rw [hk]; rfl) rfl (texts_13 t L hk hok hL)
 ·exact kind_plain 12 (by rw [hk]; rfl) rfl (texts_14 t L hk hok hL)
 ·obtain ⟨a, b, c, rfl⟩ : ∃ a b c, L = [a, b, c] := by
   match L, h3 (.inr hk) with
   | [a, b, c], _ => exact ⟨a, b, c, rfl⟩
  refine kind_betw (fx := fixE) 13 (by rw [hk]; rfl) rfl (by decide) (by simp) ?_ ?_
  ·simp only [sumB] at hL
   simp [betwL, fixE, bs] <;> omega
  ·rw [hk]
   simp [nodeText, betwL, fixE, bs, atB]
end Go.Proofs.YtnnolijagpakiaaGreatDoor
namespace Go.Proofs.YtnnolijagpakiaaGreatDoor
open Go Go.RowKit
theorem txVals_ment (r : Nat) : mentL r txVals = false := rfl
theorem txVals_frz (r : Nat) (b : Blk) : frzL r b txVals = txVals := rfl
def tpR (s : List Ex) (q : Nat) : List ByteArray := txL (s.take q) ++ List.replicate (s.length - q) ⟨#[]⟩
theorem tpR_length (s : List Ex) (q : Nat) (h : q ≤ s.length) : (tpR s q).length = s.length := by
 simp [tpR, txL_length]; omega
theorem tpR_zero (s : List Ex) : List.replicate s.length [D.raw (Value.string ⟨#[]⟩)] = encS (tpR s 0) := by
 simp [tpR, txL, encS]
theorem tpR_all (s : List Ex) : tpR s s.length = txL s := by simp [tpR]
theorem tpR_set (s : List Ex) (q : Nat) (h : q < s.length) : (encS (tpR s q)).set q [.raw (.string (txE s[q]))] = encS (tpR s (q + 1)) := by
 have hl : (txL (s.take q)).length = q := by simp [txL_length]; omega
 unfold tpR encS
 rw [txL_take_succ s q h, show s.length - q = (s.length - (q + 1)) + 1 by omega, List.replicate_succ, List.map_append, List.map_append, List.map_append, List.set_append_right _ _ (by simp [hl]), List.length_map, hl, Nat.sub_self, List.map_cons, List.set_cons_zero]
 simp
theorem tpR_row (s : List Ex) (q : Nat) (h : q < s.length) : (encS (tpR s q)).getD q [] = [D.raw (Value.string ⟨#[]⟩)] := by
 have hl : (txL (s.take q)).length = q := by simp [txL_length]; omega
 rw [encS_at _ q (by rw [tpR_length s q (by omega)]; exact h)]
 simp [tpR, hl]
abbrev tpSt (k : Int) (n m : ByteArray) (i d : Int) (s : List Ex) (q : Nat) : St :=
 ⟨[(1, .mapd txKeys txVals), (2, .box 0 0), (5, .own 1003 s.length), (13, .d (.sl (encL s))), (14, .d (.raw (.int .i64 s.length))), (15, .d (.raw (.int .i64 q)))],
  [(0, some (.cell 36 (cellsX k n m i d s))), (1003, some (.row 1 9 (encS (tpR s q))))], []⟩
set_option maxRecDepth 100000 in
set_option maxHeartbeats 8000000 in
theorem text_step (N : Nat) (ih : ∀ t : Ex, nodesE t < N → nodesE t ≤ 1048576 → fullE t = true → Con Tryz.prog 47 [avE t, .mapd txKeys txVals] (.d (.raw (.string (txE t)))))
  (k : Int) (n m : ByteArray) (i d : Int) (s : List Ex) (hN : nodesE (.mk k n m i d s) < N + 1) (hb : nodesE (.mk k n m i d s) ≤ 1048576) (hok : fullE (.mk k n m i d s) = true) :
  Con Tryz.prog 47 [avE (.mk k n m i d s), .mapd txKeys txVals] (.d (.raw (.string (txE (.mk k n m i d s))))) := by
 rw [nodesE] at hN hb
 have hlen := length_le_nodesL s
 have hok' := hok
 simp only [fullE, Bool.and_eq_true] at hok
 obtain ⟨⟨hok1, hex⟩, hokL⟩ := hok
 have hLs := txL_size s (fullL_ok s hokL)
 obtain ⟨j, f, cs, hj1, hj2, hcs, hcon⟩ := kind_c (.mk k n m i d s) (txL s) (by rw [txL_length]; exact hok1) (by rw [txL_length]; exact hex) (by omega)
 have hj1 : findIx (.int .i64 k) txKeys = some j := hj1
 have hcon : Con Tryz.prog f ([avE (.mk k n m i d s), .d (.sl (encS (txL s)))] ++ cs) (.d (.raw (.string (txE (.mk k n m i d s))))) := hcon
 refine con_of Tryz.func47 rfl (by decide +kernel) rfl rfl (by simp [Tryz.ntmps47]) fun A hA => ?_
 rw [Tryz.ntmps47] at hA
 refine goC 300 ?_
 simp only [go_sem, hA, avE, encE, encL_length, Int.toNat_natCast, txVals_ment]
 refine ⟨⟨by omega, by omega, by omega⟩, ?_⟩
 refine satC_loop [1, 2, 5, 13, 14, 15] [0, 1003] [] (fun y σ => ∃ q : Nat, q ≤ s.length ∧ y = s.length - q ∧ σ = tpSt k n m i d s q) s.length ⟨0, by omega, by omega, by simp only [go_sem, tpSt, cellsX, tpR_zero]⟩ ?_
 rintro y σ ⟨q, hq, rfl, rfl⟩
 refine goC 300 ?_
 have htl := tpR_length s q hq
 by_cases hlt : q < s.length
 ·have k1 : decide ((q : Int) < (s.length : Int)) = true := decide_eq_true (by omega)
  have hn1 := nodesL_get s q hlt
  simp only [go_sem, hA, tpSt, cellsX, k1, Int.toNat_natCast, encL_length, encL_at s q hlt, txVals_ment]
  refine ⟨⟨by omega, by omega⟩, goCall 300 (ih s[q] (by omega) (by omega) (fullL_get q hlt hokL)) rfl (by simp only [go_sem, avE_eq]; rfl) (by simp only [go_sem, hA]) ?_⟩
  have hst := tpR_set s q hlt
  simp only [go_sem, hA, Int.toNat_natCast, encS_length, htl, hst, tpR_row s q hlt, txVals_ment]
  exact ⟨⟨by omega, by omega⟩, hlt, by unfold inI64; omega, s.length - (q + 1), by omega, q + 1, by omega, rfl, rfl⟩
 ·have k1 : decide ((q : Int) < (s.length : Int)) = false := decide_eq_false (by omega)
  obtain rfl : q = s.length := by omega
  simp only [go_sem, hA, tpSt, cellsX, k1, hj1, hj2, txVals_ment, tpR_all]
  refine ⟨rfl, goFrz 1003 ?_⟩
  have htk : (encS (txL s)).take s.length = encS (txL s) := List.take_of_length_le (by rw [encS_length, txL_length]; omega)
  rcases hcs with rfl | ⟨fx, rfl⟩
  ·simp only [go_sem, txVals_frz, encS_length, txL_length]
   refine goCallF 300 hcon rfl rfl rfl (by simp only [go_sem, avE_eq]; rfl) (by simp only [go_sem, hA]) ?_
   simp only [go_sem, hA, txVals_ment, Tryz.results47]
  ·simp only [go_sem, txVals_frz, encS_length, txL_length]
   refine goCallF 300 hcon rfl rfl rfl (by simp only [go_sem, avE_eq]; rfl) (by simp only [go_sem, hA]) ?_
   simp only [go_sem, hA, txVals_ment, Tryz.results47]
theorem text_c (N : Nat) : ∀ t : Ex, nodesE t < N → nodesE t ≤ 1048576 → fullE t = true → Con Tryz.prog 47 [avE t, .mapd txKeys txVals] (.d (.raw (.string (txE t)))) := by
 induction N with
 | zero => intro t h; omega
 | succ N ih => intro t h hb hok; cases t; exact text_step N ih _ _ _ _ _ _ h hb hok
end Go.Proofs.YtnnolijagpakiaaGreatDoor
namespace Go.Proofs.YtnnolijagpakiaaGreatDoor
open Go Go.RowKit Go.Shelf
attribute [local go_sem] Oper.semAt_some
structure CnFrame (w : World) (E : Array Value) (T : TypeId) (x : Value) (W : World) : Prop where
 e : W.heap[w.heap.size]? = some (.cells E 36 (0, 0))
 c : W.heap[w.heap.size + 1]? = some (.cells #[x] T (0, 0))
 size : w.heap.size + 1 + 1 + 1 ≤ W.heap.size
 below : Below w.heap.size w W
theorem CnFrame.grown {w : World} {E : Array Value} {T : TypeId} {x : Value} {A B : World} {row : Option Nat} (h : CnFrame w E T x A) (hg : A.grownBy B row) (hr : ∀ r, row = some r → w.heap.size ≤ r ∧ ∃ o : Obj, A.heap[r]? = some o ∧ o.isCells = false) : CnFrame w E T x B :=
 have hr' := fun r e => (hr r e).2
 ⟨(grownBy_keeps_cells hg hr' h.e rfl).trans h.e, (grownBy_keeps_cells hg hr' h.c rfl).trans h.c, Nat.le_trans h.size hg.size, h.below.trans ((Below.refl _ _).grown hg (by have := h.size; omega) (fun k e => (hr k e).1))⟩
theorem CnFrame.step {w : World} {E : Array Value} {T : TypeId} {x : Value} {A B : World} {base : Nat} (h : CnFrame w E T x A) (hs : ItStep base A B) (hb : w.heap.size + 1 + 1 + 1 ≤ base) : CnFrame w E T x B :=
 ⟨(hs.below.block _ (by omega)).trans h.e, (hs.below.block _ (by omega)).trans h.c, Nat.le_trans h.size hs.others.size, h.below.trans (hs.below.mono (by omega))⟩
theorem CnFrame.set {w : World} {E : Array Value} {T : TypeId} {x : Value} {A : World} (h : CnFrame w E T x A) (y : Value) : CnFrame w E T y (A.setCell ⟨w.heap.size + 1, 0, none⟩ y) :=
 ⟨(Below.heap_setCell _ _ _ _ (by simp)).trans h.e, one_setCell h.c, by simpa [World.setCell] using h.size, h.below.setCell (p := ⟨w.heap.size + 1, 0, none⟩) (by simp) _⟩
theorem cn_start (w : World) (t1 T : TypeId) (E : Array Value) (x : Value) (V : World) (hV : ((w.alloc (.cells E t1)).alloc (.cells #[x] T)).alloc (.cells E t1) = V) (h1 : t1 = 36 := by rfl) :
  CnFrame w E T x V ∧ V.heap[w.heap.size + 1 + 1]? = some (.cells E t1 (0, 0)) ∧ V.heap.size = w.heap.size + 1 + 1 + 1 := by
 subst h1
 have q1 := World.alloc_heap_new w (.cells E 36)
 have q2 := World.alloc_heap_new (w.alloc (.cells E 36)) (.cells #[x] T)
 have q3 := World.alloc_heap_new ((w.alloc (.cells E 36)).alloc (.cells #[x] T)) (.cells E 36)
 simp only [World.size_alloc] at q2 q3
 rw [hV] at q3
 refine ⟨⟨?_, ?_, ?_, ?_⟩, q3, ?_⟩ <;> rw [← hV]
 ·exact (Below.heap_alloc _ _ _ (by simp <;> omega)).trans ((Below.heap_alloc _ _ _ (by simp)).trans q1)
 ·exact (Below.heap_alloc _ _ _ (by simp)).trans q2
 ·simp
 ·exact (((Below.refl _ w).alloc (Nat.le_refl _) _).alloc (by simp) _).alloc (by simp; omega) _
 ·simp
mutual
theorem kindsE_pre (k : Int) : ∀ (d : Nat) (t : Ex), kindsE k t = (preE d t).any fun x => decide (x.2.kind = k)
 | d, .mk k' n m i dn s => by
  rw [preE, kindsE, List.any_cons, kindsL_pre k (d + 1) s]; rfl
theorem kindsL_pre (k : Int) : ∀ (d : Nat) (l : List Ex), kindsL k l = (preL d l).any fun x => decide (x.2.kind = k)
 | d, [] => by simp [kindsL, preL]
 | d, e :: es => by rw [kindsL, preL, List.any_append, kindsE_pre k d e, kindsL_pre k d es]
end
def NoRef (pre : List ItN) : Prop := ∀ x ∈ pre, x.2.1.kind ≠ 5
theorem noRef_all {t : Ex} {xs : List ItN} (h : NodesAll t xs) (hn : NoRef xs) : kindsE 5 t = false := by
 rw [kindsE_pre 5 1, ← (show _ = _ from h), List.any_eq_false]
 intro x hx
 obtain ⟨y, hy, rfl⟩ := List.mem_map.1 hx
 exact fun h => hn y hy (of_decide_eq_true h)
theorem ref_pre {t : Ex} {xs : List ItN} (h : NodesPre t xs) (hn : ∃ x ∈ xs, x.2.1.kind = 5) : kindsE 5 t = true := by
 obtain ⟨x, hx, hk⟩ := hn
 rw [kindsE_pre 5 1, List.any_eq_true]
 exact ⟨projN x, h.subset (List.mem_map_of_mem hx), decide_eq_true hk⟩
def Hr1 (w : World) (E : Array Value) (pre : List (ItN)) (W : World) : Prop := CnFrame w E 4 (.bool false) W ∧ NoRef pre
def Hr1x (w : World) (E : Array Value) (c : Code) (pre : List (ItN)) (W : World) : Prop := c = .ret ∧ CnFrame w E 4 (.bool true) W ∧ ∃ x ∈ pre, x.2.1.kind = 5
theorem hr1_own (w : World) (E : Array Value) (B : Nat) (hB : w.heap.size ≤ B) : OwnFrom B (Hr1 w E) := fun _ _ _ _ hs hg hr => ⟨hs.1.grown hg (fun r e => ⟨by have := (hr r e).1; omega, (hr r e).2⟩), hs.2⟩
theorem hr1x_own (w : World) (E : Array Value) (c : Code) (B : Nat) (hB : w.heap.size ≤ B) : OwnFrom B (Hr1x w E c) := fun _ _ _ _ hs hg hr => ⟨hs.1, hs.2.1.grown hg (fun r e => ⟨by have := (hr r e).1; omega, (hr r e).2⟩), hs.2.2⟩
set_option maxRecDepth 100000 in
set_option maxHeartbeats 4000000 in
theorem sHasRef_any (k : Int) (nm mr : ByteArray) (it d : Int) (sub : List Ex) (sv : Value) (w : World) (hm : nodesL sub ≤ 1048576) (hs : SubAt w w.heap.size sub sv) :
  Calls Tryz.prog 46 #[.agg #[.int .i64 k, .string nm, .string mr, .int .i64 it, .int .i64 d, sv]] w fun e w' => e = .returned (.bool (kindsE 5 (.mk k nm mr it d sub))) ∧ Below w.heap.size w w' := by
 obtain ⟨p, cap, rfl, hcap, _⟩ := subAt_open hs
 refine (callsIn_wide (n := 4)).1 ?_
 refine callsIn_of_wp_marks Tryz.func46 rfl trivial ?_ rfl
 simp only [Tryz.ntmps46, List.size_toArray, List.length_cons, List.length_nil, Nat.reduceAdd, Nat.reduceSub, Array.replicate_succ, Array.replicate_zero, List.push_toArray, List.append_toArray, List.nil_append, List.cons_append]
 gi_wp2_with (first | (refine ⟨trivial, ?_⟩; gi_at_call 83; refine (callsIn_wide.2 (snodes_any _ _ _ _ _ _ _ _ _)).mono ?_; rintro e w' ⟨rfl, rfl⟩))
 have HS := Lib.hid hs
 obtain ⟨V, hV⟩ : ∃ V, (((w.alloc (Obj.cells #[.int .i64 k, .string nm, .string mr, .int .i64 it, .int .i64 d, .slice p sub.length cap] 36)).alloc (Obj.cells #[Value.bool false] 4)).alloc (Obj.cells #[.int .i64 k, .string nm, .string mr, .int .i64 it, .int .i64 d, .slice p sub.length cap] 36)) = V := ⟨_, rfl⟩
 obtain ⟨hF, hb4, hz⟩ := cn_start w 36 4 #[.int .i64 k, .string nm, .string mr, .int .i64 it, .int .i64 d, .slice p sub.length cap] (.bool false) V hV
 rw [hV]
 clear hV hs
 refine wpIn_rangeFunc_A (P := Tryz.prog) (F := Fence.wide) (n := 4) rfl (by omega) (gf := 142) (lb := #[.pointer (some ⟨w.heap.size + 1 + 1, 0, none⟩)]) rfl trivial (enters_of Tryz.func142 (by kernel_rfl) rfl)
  (encs := fun x : ItN => #[.int .i64 x.1, valN x]) (Kp := KeepOut w.heap.size (w.heap.size + 1 + 1)) (R := ItStep (V.heap.size + 1 + 1)) (X := fun _ x => ExAt w w.heap.size x.2.1 (valN x))
  (S := NodesAll (.mk k nm mr it d sub)) (Sp := NodesPre (.mk k nm mr it d sub))
  (fun r l J Jx hJ _ hY hJ0 => nodes1_in 3 l (w.heap.size + 1 + 1) w.heap.size (w.heap.size + 1 + 1) (by omega) k nm mr it d sub p cap w _ HS.out (sameLow_below ((hF.below.alloc (by omega) _).alloc (by simp; omega) _)) (by omega) (Nat.le_refl _)
   ((Below.heap_alloc _ _ _ (by simp; omega)).trans ((Below.heap_alloc _ _ _ (by omega)).trans hb4)) hm J Jx (fun pre A B h1 h2 => hJ pre A B h1 (by simpa using h2)) hY hJ0)
  (fun h1 h2 => h1.trans h2) (fun W l o o' _ hl ho => KeepOut.putObj W l o o' hl ho) (fun h => h.others.from _) (fun _ => rfl)
  (Hr1 w #[.int .i64 k, .string nm, .string mr, .int .i64 it, .int .i64 d, .slice p sub.length cap]) (Hr1x w #[.int .i64 k, .string nm, .string mr, .int .i64 it, .int .i64 d, .slice p sub.length cap]) (hr1_own w _ _ (by omega)) (fun c => hr1x_own w _ c _ (by omega))
  (fun pre A B h hs => ⟨CnFrame.step h.1 hs (by omega), h.2⟩) (fun c pre A B h hs => ⟨h.1, CnFrame.step h.2.1 hs (by omega), h.2.2⟩) ⟨hF, by intro x hx; cases hx⟩
  (fun x b => { tmps := #[Value.agg #[.int .i64 k, .string nm, .string mr, .int .i64 it, .int .i64 d, .slice p sub.length cap], Value.pointer (some { block := w.heap.size, off := 0 }), Value.pointer (some { block := w.heap.size + 1, off := 0 }), undef, Value.pointer (some { block := b, off := 0 }),
        Value.agg #[.int .i64 k, .string nm, .string mr, .int .i64 it, .int .i64 d, .slice p sub.length cap], Value.func (Fn.func 142) #[] #[Value.pointer (some { block := w.heap.size + 1 + 1, off := 0 })], Value.int .i64 x.1, valN x, undef, undef, undef], defers := [] })
  (fun x => .cells #[.int .i64 x.2.1.kind, .string x.2.1.name, .string x.2.1.more, .int .i64 x.2.1.int, .int .i64 x.2.1.den, .slice x.2.2.1 x.2.1.sub.length x.2.2.2] 36) (fun W o => KeepOut.below ((Below.refl _ _).alloc (Nat.le_refl _) _)) ?assign2 ?body2 ?done2 ?stop2
 case assign2 =>
  intro l x W K hK
  gi_wp2
  exact hK
 case body2 =>
  rintro l pre x b W5 hI - hbx hbV
  obtain ⟨hF5, hno⟩ := hI
  have cr := cell_of_one hF5.c
  have fr := free_of_one hF5.c
  have g0 : W5.cell? ⟨b, 0, none⟩ = some (.int .i64 x.2.1.kind) := by simp [World.cell?, hbx]
  have HF5 := Lib.hid hF5
  have HNO := Lib.hid hno
  have hs5 := hF5.size
  clear hF5 hno hbx
  by_cases hk : x.2.1.kind = 5
  ·have hd : decide (x.2.1.kind = 5) = true := decide_eq_true hk
   have hd2 : (x.2.1.kind == 5) = true := by simpa using hk
   have HK := Lib.hid hk
   clear hk
   gi_wp2_with fail
   exact ⟨(KeepsOthers.setCell _ _ _).from _, rfl, HF5.out.set (.bool true), x, by simp, HK.out⟩
  ·have hd : decide (x.2.1.kind = 5) = false := decide_eq_false hk
   have hd2 : (x.2.1.kind == 5) = false := by simpa using hk
   have HK := Lib.hid hk
   clear hk
   gi_wp2_with fail
   refine ⟨KeepsOthers.from (KeepsOthers.refl _) _, KeepOut.below (Below.refl _ _), HF5.out, ?_⟩
   intro y hy
   rcases List.mem_append.1 hy with h | h
   ·exact HNO.out y h
   ·simp at h; subst h; exact HK.out
 case done2 =>
  rintro D xs W hD hS ⟨hI, hno⟩ hK
  have hl : kindsE 5 (.mk k nm mr it d sub) = false := noRef_all hS hno
  have c0 := cell_of_one hI.c
  have f0 := free_of_one hI.c
  have HL := Lib.hid hl
  have HI := Lib.hid (hI.set (.bool false))
  have HK := Lib.hid ((KeepsOthers.setCell W ⟨w.heap.size + 1, 0, none⟩ (.bool false)).same D _ hK rfl)
  clear hl hI hS
  gi_wp2_with fail
  refine ⟨by simp, .inl ⟨_, _, rfl, run_takeDeferred HK.out, ?_⟩⟩
  have hc5 := cell_kept (cell_of_one HI.out.c) (grownBy_putObj' _ D (.deferred none)) (fun r e => by cases e; exact ⟨_, HK.out, rfl⟩)
  refine ⟨.bool false, ?_, by rw [HL.out], HI.out.below.trans (belowK_b (w := w) (Nat.le_refl _) _ D _ _ (by omega) HK.out rfl rfl)⟩
  simp [results, Tryz.f46, go_sem, hc5]
 case stop2 =>
  rintro D c pre W hD hpre ⟨rfl, hI, hne⟩ hK
  have hl := ref_pre hpre hne
  gi_wp2_with fail
  refine ⟨by simp, .inl ⟨_, _, rfl, run_takeDeferred hK, ?_⟩⟩
  have hc5 := cell_kept (cell_of_one hI.c) (grownBy_putObj' _ D (.deferred none)) (fun r e => by cases e; exact ⟨_, hK, rfl⟩)
  refine ⟨.bool true, ?_, by rw [hl], hI.below.trans (belowK_b (w := w) (Nat.le_refl _) _ D _ _ (by omega) hK rfl rfl)⟩
  simp [results, Tryz.f46, go_sem, hc5]
end Go.Proofs.YtnnolijagpakiaaGreatDoor
namespace Go.Proofs.YtnnolijagpakiaaGreatDoor
open Go Go.RowKit
theorem sHasRef_c (a : Ex) (hsz : nodesE a ≤ 1048576) : Con Tryz.prog 46 [avE a] (.d (.raw (.bool (kindsE 5 a)))) := con_e1 ⟨_, Tryz.func46, by decide +kernel, rfl⟩ fun x w ha => by
 obtain ⟨ea, ha⟩ := xAt_sub ha
 rw [ea]
 rw [nodesE_eq] at hsz
 have h := sHasRef_any a.kind a.name a.more a.int a.den a.sub _ w (by omega) ha
 rw [Ex.eta] at h
 exact h
theorem sName_c (s : ByteArray) : Con Tryz.prog 161 [.d (.raw (.string s))] (.d (.raw (.bool (nameB s)))) := con_s1 ⟨_, Tryz.func161, by decide +kernel, rfl⟩ fun w => sname_any s w
theorem sLabel_c (s : ByteArray) : Con Tryz.prog 57 [.d (.raw (.string s))] (.d (.raw (.bool (labelL s.data.toList)))) := con_s1 ⟨_, Tryz.func57, by decide +kernel, rfl⟩ fun w => label_any s w
end Go.Proofs.YtnnolijagpakiaaGreatDoor
namespace Go.Proofs.YtnnolijagpakiaaGreatDoor
open Go Go.RowKit Go.MapKept
section
variable {P : Program} {A : Base P} {σ : St} {g : Gh} {a : Act} {w : World}
theorem goStep (n : Nat) {all : List Oper} {o : Oper} {rest : List Oper} {i base : Nat} {s : List Itm} {σ' : St} {Q : Exit → St → Prop} {x : AV} (hg : gdOf A.N all σ o = some true) (h : OpOk P A o σ σ' x) (hd : dstOk A.N o = true)
  (hr : go P A n (.ops all rest (i + 1) base) s (σ'.put o.dst x) Q) : SemM P A (.ops all (o :: rest) i base) s σ Q :=
 satO_cons hg (fun _ => satE_op h hd (go_ok n _ _ _ _ hr)) (fun e => by cases e) (fun e => by cases e)
end
end Go.Proofs.YtnnolijagpakiaaGreatDoor
namespace Go.Proofs.YtnnolijagpakiaaGreatDoor
open Go Go.RowKit
theorem wordL_size {n : Nat} {l : List UInt8} (h : wordL n l = true) : l.length ≤ n := by
 cases l with
 | nil => simp
 | cons c r =>
  simp only [wordL, Bool.and_eq_true, decide_eq_true_eq] at h
  simp only [List.length_cons]
  exact h.1.1
theorem nameB_size {s : ByteArray} (h : nameB s = true) : s.size ≤ 24 := by
 simp only [nameB, Bool.and_eq_true] at h
 exact wordL_size h.1
theorem opNames_size {s : ByteArray} (h : hasB opNames s = true) : s.size = 1 := by
 by_cases e : s.size = 1
 ·exact e
 ·rw [ops_long e] at h; cases h
theorem checkN_zero {k : Int} {n m : ByteArray} {i d : Int} {len : Nat} (h : checkN k n m i d len = 0) : ∃ nn nu ns, shapeK k = some (nn, nu, ns) ∧ argOk nn nu ns n m i d len = true ∧ namedB k n m (decide (1 ≤ nn)) (decide (2 ≤ nn)) = true ∧ ¬ (k = 13 ∧ n = m) ∧ rangedB k i d = true := by
 cases hs : shapeK k with
 | none => rw [checkN_none hs] at h; omega
 | some x =>
  obtain ⟨nn, nu, ns⟩ := x
  cases ha : argOk nn nu ns n m i d len with
  | false => rw [checkN_arg hs ha] at h; omega
  | true =>
   by_cases hn : namesErr k n m (decide (1 ≤ nn)) (decide (2 ≤ nn)) = 0
   ·rw [checkN_range hs ha hn] at h
    refine ⟨nn, nu, ns, rfl, ha, ?_, ?_, ?_⟩
    ·cases hb : namedB k n m (decide (1 ≤ nn)) (decide (2 ≤ nn)) with
     | true => rfl
     | false => simp [namesErr, hb] at hn
    ·intro e
     unfold namesErr at hn
     rw [if_pos e] at hn
     split at hn <;> omega
    ·cases hb : rangedB k i d with
     | true => rfl
     | false => simp [rangeErr, hb] at h
   ·rw [checkN_names hs ha hn] at h; exact absurd h hn
set_option maxHeartbeats 4000000 in
theorem checkN_ok {k : Int} {n m : ByteArray} {i d : Int} {len : Nat} (h : checkN k n m i d len = 0) (h5 : k ≠ 5) : okN k n m i d len = true ∧ exN k len = true := by
 obtain ⟨nn, nu, ns, hs, ha, hn, _, hr⟩ := checkN_zero h
 simp only [argOk, Bool.and_eq_true, Bool.or_eq_true, decide_eq_true_eq] at ha
 obtain ⟨⟨⟨⟨ha1, ha2⟩, ha3⟩, ha4⟩, ha5⟩ := ha
 subst ha5
 simp only [namedB, Bool.and_eq_true] at hn
 have hm : m.size ≤ 120 := by
  by_cases e : 2 ≤ nn
  ·have h1 := hn.1
   rw [decide_eq_true e] at h1
   have := nameB_size (s := m) (by simpa using h1)
   omega
  ·omega
 have hn' : n.size ≤ 120 := by
  have h1 := hn.2
  unfold okName at h1
  rw [if_neg h5] at h1
  split at h1
  ·have := opNames_size h1; omega
  ·by_cases e : 1 ≤ nn
   ·rw [decide_eq_true e] at h1
    have := nameB_size (s := n) (by simpa using h1)
    omega
   ·omega
 have key : (arity k ≤ len ∧ (-9223372036854775808 ≤ i ∧ i ≤ 9223372036854775807) ∧ (-9223372036854775808 ≤ d ∧ d ≤ 9223372036854775807)) ∧ exN k len = true := by
  rcases shapeK_cases hs with ⟨rfl, e⟩ | ⟨rfl, e⟩ | ⟨rfl, e⟩ | ⟨rfl, e⟩ | ⟨rfl, e⟩ | ⟨rfl, e⟩ | ⟨rfl, e⟩ | ⟨rfl, e⟩ | ⟨rfl, e⟩ | ⟨rfl, e⟩ | ⟨rfl, e⟩ | ⟨rfl, e⟩ | ⟨rfl, e⟩ | ⟨rfl, e⟩ | ⟨rfl, e⟩ <;> cases e <;> simp [rangedB] at hr ha3 ha4 <;>
   exact ⟨by simp [arity] <;> omega, by simp [exN]⟩
 simp only [okN, Bool.and_eq_true, decide_eq_true_eq]
 exact ⟨⟨⟨⟨⟨⟨key.1.1, hn'⟩, hm⟩, key.1.2.1⟩, key.1.2.2⟩, h5⟩, key.2⟩
theorem checkE_cons {e : Ex} {es : List Ex} (h : checkEs (e :: es) = 0) : checkE e = 0 ∧ checkEs es = 0 := by
 rw [checkEs] at h
 split at h
 ·rename_i h0; exact ⟨h0, h⟩
 ·rename_i h0; exact absurd h h0
theorem checkE_mk {k : Int} {n m : ByteArray} {i d : Int} {s : List Ex} (h : checkE (.mk k n m i d s) = 0) : checkN k n m i d s.length = 0 ∧ checkEs s = 0 := by
 by_cases h0 : checkN k n m i d s.length = 0
 ·rw [checkE_good h0] at h; exact ⟨h0, h⟩
 ·rw [checkE_bad rfl h0] at h; exact absurd h h0
mutual
theorem checkE_full : ∀ t : Ex, checkE t = 0 → kindsE 5 t = false → fullE t = true
 | .mk k n m i d s, h, h5 => by
  obtain ⟨h1, h2⟩ := checkE_mk h
  simp only [kindsE, Bool.or_eq_false_iff, decide_eq_false_iff_not] at h5
  obtain ⟨h3, h4⟩ := checkN_ok h1 h5.1
  simp only [fullE, Bool.and_eq_true]
  exact ⟨⟨h3, h4⟩, checkEs_full s h2 h5.2⟩
theorem checkEs_full : ∀ l : List Ex, checkEs l = 0 → kindsL 5 l = false → fullL l = true
 | [], _, _ => rfl
 | e :: es, h, h5 => by
  obtain ⟨h1, h2⟩ := checkE_cons h
  simp only [kindsL, Bool.or_eq_false_iff] at h5
  simp only [fullL, Bool.and_eq_true]
  exact ⟨checkE_full e h1 h5.1, checkEs_full es h2 h5.2⟩
end
theorem checkX_E {t : Ex} (h : checkX t = 0) : checkE t = 0 ∧ nodesE t ≤ 400 ∧ depthE t ≤ 40 := by
 unfold checkX at h
 split at h
 ·omega
 ·exact ⟨h, by omega, by omega⟩
theorem checkX_full {t : Ex} (h : checkX t = 0) (h5 : kindsE 5 t = false) : fullE t = true := checkE_full t (checkX_E h).1 h5
theorem ba_inj {a b : ByteArray} (h : a.data.toList = b.data.toList) : a = b := by
 apply ByteArray.ext; apply Array.ext'; exact h
end Go.Proofs.YtnnolijagpakiaaGreatDoor
