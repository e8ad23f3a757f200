/- SyntaxParts: the law walked. -/
import Derived.Test.YtnphcjpccieljaaGreatDoorGYg
import Derived.Test.YtnphcjpccieljaaGreatDoorGXv
namespace Go.Proofs.YtnphcjpccieljaaGreatDoor
open Go Go.RowKit
theorem greatE_le {t : Ex} (h : greatE t = false) : nodesE t ≤ 40 := by
  simp only [greatE, Bool.or_eq_false_iff, decide_eq_false_iff_not] at h
  omega
theorem checkEs_mem : ∀ {l : List Ex}, checkEs l = 0 → ∀ x ∈ l, checkE x = 0
  | e :: es, h, x, hx => by
    obtain ⟨h1, h2⟩ := checkE_cons h
    rcases List.mem_cons.1 hx with rfl | hx
    · exact h1
    · exact checkEs_mem h2 x hx
theorem depthL_mem : ∀ {l : List Ex} {x : Ex}, x ∈ l → depthE x ≤ depthL l
  | e :: es, x, h => by
    rw [depthL]
    rcases List.mem_cons.1 h with rfl | h
    · omega
    · have := depthL_mem h; omega
theorem checkX_sub {k : Int} {n m : ByteArray} {i d : Int} {s : List Ex} (h : checkX (.mk k n m i d s) = 0) {x : Ex} (hx : x ∈ s) : checkX x = 0 := by
  obtain ⟨h1, h2, h3⟩ := checkX_E h
  have h4 := checkEs_mem (checkE_mk h1).2 x hx
  have h5 : nodesE x < nodesE (.mk k n m i d s) := by
    obtain ⟨j, hj, rfl⟩ := List.getElem_of_mem hx
    have := nodesL_get s j hj
    rw [nodesE]; omega
  have h6 : depthE x < depthE (.mk k n m i d s) := by
    have := depthL_mem hx
    rw [depthE]; omega
  rw [checkX_good (by omega) (by omega), h4]
theorem checkN_let (n : ByteArray) : checkN 8 n ⟨#[]⟩ 0 0 2 = if nameB n then 0 else 6 := by
  have hs : shapeK 8 = some (1, 0, 2) := rfl
  have e : namesErr 8 n ⟨#[]⟩ true false = if nameB n then 0 else 6 := by
    unfold namesErr namedB okName
    cases nameB n <;> rfl
  cases hb : nameB n with
  | true =>
    rw [hb] at e
    rw [checkN_range hs rfl (by simpa using e)]
    rfl
  | false =>
    rw [hb] at e
    have e : namesErr 8 n ⟨#[]⟩ true false = 6 := e
    rw [checkN_names hs rfl (by show ¬ namesErr 8 n ⟨#[]⟩ true false = 0; rw [e]; decide)]
    exact e
def letE (n : ByteArray) (a b : Ex) : Ex := .mk 8 n ⟨#[]⟩ 0 0 [a, b]
theorem let_sub {n : ByteArray} {a b : Ex} (h : checkX (letE n a b) = 0) : checkX a = 0 ∧ checkX b = 0 := ⟨checkX_sub h (by simp), checkX_sub h (by simp)⟩
theorem let_iff {n : ByteArray} {a b : Ex} (ha : checkX a = 0) (hb : checkX b = 0) (na : nodesE a ≤ 40) (nb : nodesE b ≤ 40) (da : depthE a < 39) (db : depthE b < 39) : checkX (letE n a b) = if nameB n then 0 else 6 := by
  have h1 : nodesE (letE n a b) = nodesE a + nodesE b + 1 := by simp [letE, nodesE, nodesL]
  have h2 : depthE (letE n a b) ≤ 40 := by simp only [letE, depthE, depthL]; omega
  rw [checkX_good (by omega) (by omega)]
  unfold letE
  have h3 : checkEs [a, b] = 0 := by simp [checkEs, (checkX_E ha).1, (checkX_E hb).1]
  have h4 := checkN_let n
  cases hn : nameB n with
  | true =>
    rw [hn] at h4
    rw [checkE_good (by simpa using h4), h3]; rfl
  | false =>
    rw [hn] at h4
    exact checkE_bad h4 (by decide)
abbrev lpSt (k : Int) (n m : ByteArray) (i d : Int) (s : List Ex) (b : Ex) (nm : ByteArray) (q : Nat) : St := ⟨[(2, .d (.raw (.string nm))), (3, .box 0 0), (4, .box 1 0), (7, .d (.raw (.int .i64 ((nodesL (s.take q) + 1 : Nat) : Int)))), (25, .d (.sl (encL s))), (26, .d (.raw (.int .i64 s.length))), (27, .d (.raw (.int .i64 q)))],
  [(0, some (.cell 35 (cellsX k n m i d s))), (1, some (.cell 35 (cellsX b.kind b.name b.more b.int b.den b.sub)))], []⟩
set_option maxRecDepth 100000 in
set_option maxHeartbeats 16000000 in
theorem lawParts_c (a b : Ex) (nm : ByteArray) (ha : nodesE a ≤ 1048576) (hb : nodesE b ≤ 1048576) : Con Tryz.prog 6 [avE a, avE b, .d (.raw (.string nm))] (.d (.raw (.bool true))) := by
  have cga := rGreat_c a (by omega)
  have cgb := rGreat_c b (by omega)
  refine con_of Tryz.func6 rfl (by decide +kernel) rfl (by simp only [AV.closed, closedL, avE, closedL_d, Bool.and_self]) (by simp [Tryz.ntmps6]) fun A hA => ?_
  rw [Tryz.ntmps6] at hA
  refine goC 400 ?_
  simp only [go_sem, hA, avE_eq]
  refine goCall 300 cga rfl (by simp only [go_sem, avE_eq]) (by simp only [go_sem, hA]) ?_
  cases h1 : greatE a with
  | true =>
    simp only [go_sem, hA, undef]
    refine goCall 300 awake_c rfl rfl (by simp only [go_sem, hA]) ?_
    simp only [go_sem, hA, Tryz.results6]
  | false =>
  simp only [go_sem, hA]
  refine goCall 300 cgb rfl (by simp only [go_sem, avE_eq]) (by simp only [go_sem, hA]) ?_
  cases h2 : greatE b with
  | true =>
    simp only [go_sem, hA, undef]
    refine goCall 300 awake_c rfl rfl (by simp only [go_sem, hA]) ?_
    simp only [go_sem, hA, Tryz.results6]
  | false =>
  by_cases h3 : 100 < nm.size
  · have g3 : decide ((100 : Int) < (nm.size : Int)) = true := decide_eq_true (by omega)
    simp only [go_sem, hA, g3]
    refine goCall 300 awake_c rfl rfl (by simp only [go_sem, hA]) ?_
    simp only [go_sem, hA, Tryz.results6]
  have g3 : decide ((100 : Int) < (nm.size : Int)) = false := decide_eq_false (by omega)
  have na := greatE_le h1
  have nb := greatE_le h2
  have cca := sCheckExpr_c a (by omega)
  have ccb := sCheckExpr_c b (by omega)
  have cna := sNodes_c a (by omega)
  have cda := rDepth_c a (by omega)
  have cdb := rDepth_c b (by omega)
  have cnm := rName_c nm
  have hln : nodesE (letE nm a b) = nodesE a + nodesE b + 1 := by simp [letE, nodesE, nodesL]
  have ccl := sCheckExpr_c (letE nm a b) (by omega)
  obtain ⟨k, n, m, i, d, s⟩ := a
  have hlen := length_le_nodesL s
  have hns : nodesE (.mk k n m i d s) = nodesL s + 1 := by rw [nodesE]
  have hae : avE (.mk k n m i d s) = .agg (cellsX k n m i d s) := by rw [avE_eq]; rfl
  simp only [go_sem, hA, g3, encL_length, Ex.kind, Ex.name, Ex.more, Ex.int, Ex.den, Ex.sub]
  refine satC_loop [2, 3, 4, 7, 25, 26, 27] [0, 1] [] (fun y σ => ∃ q : Nat, q ≤ s.length ∧ y = s.length - q ∧ σ = lpSt k n m i d s b nm q) s.length ⟨0, by omega, by omega, by simp only [go_sem, lpSt, List.take_zero, nodesL]; rfl⟩ ?_
  rintro y σ ⟨q, hq, rfl, rfl⟩
  refine goC 400 ?_
  by_cases hlt : q < s.length
  · have k1 : decide ((q : Int) < (s.length : Int)) = true := decide_eq_true (by omega)
    have hn1 := nodesL_get s q hlt
    have hsucc := nodesL_take_succ s q hlt
    have hle := nodesL_take_le s q
    have hcast : ((nodesL (s.take q) + 1 : Nat) : Int) + (nodesE s[q] : Int) = ((nodesL (s.take (q + 1)) + 1 : Nat) : Int) := by rw [hsucc]; omega
    have cnx := sNodes_c s[q] (by omega)
    have ccx := sCheckExpr_c s[q] (by omega)
    simp only [go_sem, hA, lpSt, cellsX, k1, Int.toNat_natCast, encL_length, encL_at s q hlt]
    refine ⟨⟨by omega, by omega⟩, ?_⟩
    refine goCall 300 cnx rfl (by simp only [go_sem, avE_eq]) (by simp only [go_sem, hA]) ?_
    simp only [go_sem, hA]
    refine ⟨by unfold inI64; omega, ?_⟩
    refine goCall 300 cca rfl (by simp only [go_sem, hae, cellsX]) (by simp only [go_sem, hA]) ?_
    by_cases h4 : checkX (.mk k n m i d s) = 0
    · have k2 : decide (checkX (.mk k n m i d s) = 0) = true := decide_eq_true h4
      have h5 := checkX_sub h4 (List.getElem_mem hlt)
      have k3 : (decide ¬ checkX s[q] = 0) = false := decide_eq_false (fun h => h h5)
      simp only [go_sem, hA, k2]
      refine goCall 300 ccx rfl (by simp only [go_sem, avE_eq]) (by simp only [go_sem, hA]) ?_
      simp only [go_sem, hA, k3]
      exact ⟨by unfold inI64; omega, s.length - (q + 1), by omega, q + 1, by omega, rfl, by rw [← hcast]; rfl⟩
    · have k2 : decide (checkX (.mk k n m i d s) = 0) = false := decide_eq_false h4
      simp only [go_sem, hA, k2, undef]
      exact ⟨by unfold inI64; omega, s.length - (q + 1), by omega, q + 1, by omega, rfl, by rw [← hcast]; rfl⟩
  have k1 : decide ((q : Int) < (s.length : Int)) = false := decide_eq_false (by omega)
  obtain rfl : q = s.length := by omega
  simp only [go_sem, hA, lpSt, cellsX, k1, List.take_length]
  refine goCall 300 cca rfl (by simp only [go_sem, hae, cellsX]) (by simp only [go_sem, hA]) ?_
  have hbe : avE b = .agg (cellsX b.kind b.name b.more b.int b.den b.sub) := avE_eq b
  have hle : avE (letE nm (.mk k n m i d s) b) = .agg [.d (.raw (.int .i64 8)), .d (.raw (.string nm)), .d (.raw (.string ⟨#[]⟩)), .d (.raw (.int .i64 0)), .d (.raw (.int .i64 0)), .d (.sl [[.raw (.int .i64 k), .raw (.string n), .raw (.string m), .raw (.int .i64 i), .raw (.int .i64 d), .sl (encL s)], [.raw (.int .i64 b.kind), .raw (.string b.name), .raw (.string b.more), .raw (.int .i64 b.int), .raw (.int .i64 b.den), .sl (encL b.sub)]])] := by
    rw [avE_eq, ← encE_eq b]; rfl
  have kn : decide ((nodesE (.mk k n m i d s) : Int) = ((nodesL s + 1 : Nat) : Int)) = true := decide_eq_true (by rw [hns])
  have h45 : (checkX (.mk k n m i d s) = 0 ∧ checkX b = 0) ∨ (checkX (.mk k n m i d s) = 0 ∧ ¬ checkX b = 0) ∨ ¬ checkX (.mk k n m i d s) = 0 := by
    by_cases h4 : checkX (.mk k n m i d s) = 0
    · by_cases h5 : checkX b = 0
      · exact .inl ⟨h4, h5⟩
      · exact .inr (.inl ⟨h4, h5⟩)
    · exact .inr (.inr h4)
  rcases h45 with ⟨h4, h5⟩ | ⟨h4, h5⟩ | h4
  · have k2 : decide (checkX (.mk k n m i d s) = 0) = true := decide_eq_true h4
    have k3 : decide (checkX b = 0) = true := decide_eq_true h5
    simp only [go_sem, hA, k2]
    refine goCall 300 ccb rfl (by simp only [go_sem, hbe, cellsX]) (by simp only [go_sem, hA]) ?_
    simp only [go_sem, hA, k3]
    refine goCall 300 ccl rfl (by simp only [go_sem, hle]) (by simp only [go_sem, hA]) ?_
    simp only [go_sem, hA]
    refine goCall 300 cda rfl (by simp only [go_sem, hae, cellsX]) (by simp only [go_sem, hA]) ?_
    by_cases d1 : depthE (.mk k n m i d s) < 30
    case' neg =>
      have kd : decide ((depthE (.mk k n m i d s) : Int) < 30) = false := decide_eq_false (by omega)
      simp only [go_sem, hA, kd, undef]
      refine goCall 300 cna rfl (by simp only [go_sem, hae, cellsX]) (by simp only [go_sem, hA]) ?_
      simp only [go_sem, hA, kn, undef]
      refine goCall 300 awake_c rfl rfl (by simp only [go_sem, hA]) ?_
      simp only [go_sem, hA, Tryz.results6]
    have kd : decide ((depthE (.mk k n m i d s) : Int) < 30) = true := decide_eq_true (by omega)
    simp only [go_sem, hA, kd]
    refine goCall 300 cdb rfl (by simp only [go_sem, hbe, cellsX]) (by simp only [go_sem, hA]) ?_
    by_cases d2 : depthE b < 30
    case' neg =>
      have kd2 : decide ((depthE b : Int) < 30) = false := decide_eq_false (by omega)
      simp only [go_sem, hA, kd2, undef]
      refine goCall 300 cna rfl (by simp only [go_sem, hae, cellsX]) (by simp only [go_sem, hA]) ?_
      simp only [go_sem, hA, kn, undef]
      refine goCall 300 awake_c rfl rfl (by simp only [go_sem, hA]) ?_
      simp only [go_sem, hA, Tryz.results6]
    have kd2 : decide ((depthE b : Int) < 30) = true := decide_eq_true (by omega)
    have hl := let_iff (n := nm) h4 h5 na nb (by omega) (by omega)
    cases hn : nameB nm
    all_goals
      rw [hn] at hl cnm
      simp only [Bool.false_eq_true, if_false, if_true] at hl
      simp only [go_sem, hA, kd2, hl, Int.reduceEq]
      refine goCall 300 cnm rfl rfl (by simp only [go_sem, hA]) ?_
      simp only [go_sem, hA]
      refine goCall 300 cna rfl (by simp only [go_sem, hae, cellsX]) (by simp only [go_sem, hA]) ?_
      simp only [go_sem, hA, kn, undef]
      refine goCall 300 awake_c rfl rfl (by simp only [go_sem, hA]) ?_
      simp only [go_sem, hA, Tryz.results6]
  case' inr.inl =>
    have k2 : decide (checkX (.mk k n m i d s) = 0) = true := decide_eq_true h4
    have k3 : decide (checkX b = 0) = false := decide_eq_false h5
    have h6 : ¬ checkX (letE nm (.mk k n m i d s) b) = 0 := fun h => h5 (let_sub h).2
    simp only [go_sem, hA, k2]
    refine goCall 300 ccb rfl (by simp only [go_sem, hbe, cellsX]) (by simp only [go_sem, hA]) ?_
    simp only [go_sem, hA, k3]
  case' inr.inr =>
    have k2 : decide (checkX (.mk k n m i d s) = 0) = false := decide_eq_false h4
    have h6 : ¬ checkX (letE nm (.mk k n m i d s) b) = 0 := fun h => h4 (let_sub h).1
    simp only [go_sem, hA, k2, undef]
  all_goals
    have k6 : decide (checkX (letE nm (.mk k n m i d s) b) = 0) = false := decide_eq_false h6
    have k7 : (decide ¬ checkX (letE nm (.mk k n m i d s) b) = 0) = true := decide_eq_true h6
    refine goCall 300 ccl rfl (by simp only [go_sem, hle]) (by simp only [go_sem, hA]) ?_
    simp only [go_sem, hA, undef]
    refine goCall 300 cna rfl (by simp only [go_sem, hae, cellsX]) (by simp only [go_sem, hA]) ?_
    simp only [go_sem, hA, kn, k7]
    refine goCall 300 awake_c rfl rfl (by simp only [go_sem, hA]) ?_
    simp only [go_sem, hA, Tryz.results6]
end Go.Proofs.YtnphcjpccieljaaGreatDoor
