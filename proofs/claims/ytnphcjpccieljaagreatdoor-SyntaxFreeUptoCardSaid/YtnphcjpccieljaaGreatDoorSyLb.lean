/- SyntaxFree: the law walked. -/
import Derived.Test.YtnphcjpccieljaaGreatDoorSyLa
import Derived.Test.YtnphcjpccieljaaGreatDoorPlC
namespace Go.Proofs.YtnphcjpccieljaaGreatDoor
open Go Go.RowKit
/-- a row that grows, as data -/
theorem satC_dataTmp {P : Program} {A : Base P} {σ : St} (t r : Nat) (rows : List (List D)) {c : Code} {K : Exit → St → Prop} (ht : σ.get t = .grow r rows) (h : SatC P A c (σ.put (some t) (.d (.sl rows))) K) : SatC P A c σ K := by
  refine satC_ok (fun g a w hk => ?_) h
  refine ⟨g, hk.below, hk.hB, hk.F0, hk.Fn, hk.Fb, hk.defers, hk.size, fun n => ?_, hk.blk, hk.Fblk, hk.inj, hk.tok, hk.Ftok, hk.tokblk, hk.toktok⟩
  rw [St.get_put, St.tk_put]
  have he := hk.env n
  split
  · rename_i e
    injection e with e
    subst e
    rw [ht] at he
    exact .d he.grow_eq.1
  · exact he
theorem checkN_fun (n : ByteArray) (h : nameB n = true) : checkN 6 n ⟨#[]⟩ 0 0 1 = 0 := by
  have hs : shapeK 6 = some (1, 0, 1) := rfl
  have e : namesErr 6 n ⟨#[]⟩ true false = 0 := by
    unfold namesErr namedB okName
    rw [h]; rfl
  rw [checkN_range hs rfl e]
  rfl
theorem fun_ok {n : ByteArray} {b : Ex} (hn : nameB n = true) (hb : checkX b = 0) (nb : nodesE b ≤ 40) (db : depthE b < 39) : checkX (funE n b) = 0 := by
  have h1 : nodesE (funE n b) = nodesE b + 1 := by simp [funE, nodesE, nodesL]
  have h2 : depthE (funE n b) ≤ 40 := by simp only [funE, depthE, depthL]; omega
  rw [checkX_good (by omega) (by omega)]
  unfold funE
  rw [checkE_good (checkN_fun n hn)]
  simp [checkEs, (checkX_E hb).1]
abbrev lf1St (a b : Ex) (nm : ByteArray) (x y : List ByteArray) (q : Nat) : St := ⟨[(2, .d (.raw (.string nm))), (3, .box 0 0), (4, .box 1 0), (8, .d (.sl (encS y))), (9, .d (.sl (encS (foldW [] (x.take q))))), (10, .grow 4001 (encS [])), (55, .d (.sl (encS x))), (56, .d (.raw (.int .i64 x.length))), (57, .d (.raw (.int .i64 q)))],
  [(0, some (.cell 35 (cellsX a.kind a.name a.more a.int a.den a.sub))), (1, some (.cell 35 (cellsX b.kind b.name b.more b.int b.den b.sub)))], [(4001, some ⟨1, 9, 0⟩)]⟩
abbrev lf2St (a b : Ex) (nm : ByteArray) (x y : List ByteArray) (q : Nat) : St := ⟨[(2, .d (.raw (.string nm))), (3, .box 0 0), (4, .box 1 0), (9, .d (.sl (encS (foldW (foldW [] x) (dropN nm (y.take q)))))), (10, .grow 4001 (encS (dropN nm (y.take q)))), (65, .d (.sl (encS y))), (66, .d (.raw (.int .i64 y.length))), (67, .d (.raw (.int .i64 q)))],
  [(0, some (.cell 35 (cellsX a.kind a.name a.more a.int a.den a.sub))), (1, some (.cell 35 (cellsX b.kind b.name b.more b.int b.den b.sub)))], [(4001, some ⟨1, 9, (dropN nm (y.take q)).length⟩)]⟩
set_option maxRecDepth 100000 in
set_option maxHeartbeats 16000000 in
theorem lawFree_c (a b : Ex) (nm : ByteArray) (ha : nodesE a ≤ 1048576) (hb : nodesE b ≤ 1048576) : Con Tryz.prog 5 [avE a, avE b, .d (.raw (.string nm))] (.d (.raw (.bool true))) := by
  have cga := rGreat_c a (by omega)
  have cgb := rGreat_c b (by omega)
  have cca := sCheckExpr_c a (by omega)
  have ccb := sCheckExpr_c b (by omega)
  have cda := rDepth_c a (by omega)
  have cdb := rDepth_c b (by omega)
  have cnm := rName_c nm
  refine con_of Tryz.func5 rfl (by decide +kernel) rfl (by simp only [AV.closed, closedL, avE, closedL_d, Bool.and_self]) (by simp [Tryz.ntmps5]) fun A hA => ?_
  rw [Tryz.ntmps5] at hA
  have hae : avE a = .agg (cellsX a.kind a.name a.more a.int a.den a.sub) := avE_eq a
  have hbe : avE b = .agg (cellsX b.kind b.name b.more b.int b.den b.sub) := avE_eq b
  refine goC 400 ?_
  simp only [go_sem, hA, avE_eq]
  refine goCall 300 cga rfl (by simp only [go_sem, avE_eq]) (by simp only [go_sem, hA]) ?_
  cases h1 : greatE a with
  | true =>
    simp only [go_sem, hA, undef]
    refine goCall 300 awake_c rfl rfl (by simp only [go_sem, hA]) ?_
    simp only [go_sem, hA, Tryz.results5]
  | false =>
  simp only [go_sem, hA]
  refine goCall 300 cgb rfl (by simp only [go_sem, avE_eq]) (by simp only [go_sem, hA]) ?_
  cases h2 : greatE b with
  | true =>
    simp only [go_sem, hA, undef]
    refine goCall 300 awake_c rfl rfl (by simp only [go_sem, hA]) ?_
    simp only [go_sem, hA, Tryz.results5]
  | false =>
  simp only [go_sem, hA]
  refine goCall 300 cca rfl (by simp only [go_sem, avE_eq]) (by simp only [go_sem, hA]) ?_
  by_cases h3 : checkX a = 0
  case neg =>
    have k3 : (decide ¬ checkX a = 0) = true := decide_eq_true h3
    simp only [go_sem, hA, k3, undef]
    refine goCall 300 awake_c rfl rfl (by simp only [go_sem, hA]) ?_
    simp only [go_sem, hA, Tryz.results5]
  have k3 : (decide ¬ checkX a = 0) = false := decide_eq_false (fun h => h h3)
  simp only [go_sem, hA, k3]
  refine goCall 300 ccb rfl (by simp only [go_sem, avE_eq]) (by simp only [go_sem, hA]) ?_
  by_cases h4 : checkX b = 0
  case neg =>
    have k4 : (decide ¬ checkX b = 0) = true := decide_eq_true h4
    simp only [go_sem, hA, k4, undef]
    refine goCall 300 awake_c rfl rfl (by simp only [go_sem, hA]) ?_
    simp only [go_sem, hA, Tryz.results5]
  have k4 : (decide ¬ checkX b = 0) = false := decide_eq_false (fun h => h h4)
  simp only [go_sem, hA, k4]
  refine goCall 300 cda rfl (by simp only [go_sem, avE_eq]) (by simp only [go_sem, hA]) ?_
  by_cases h5 : 30 < depthE a
  · have k5 : decide ((30 : Int) < (depthE a : Int)) = true := decide_eq_true (by omega)
    simp only [go_sem, hA, k5, undef]
    refine goCall 300 awake_c rfl rfl (by simp only [go_sem, hA]) ?_
    simp only [go_sem, hA, Tryz.results5]
  have k5 : decide ((30 : Int) < (depthE a : Int)) = false := decide_eq_false (by omega)
  simp only [go_sem, hA, k5]
  refine goCall 300 cdb rfl (by simp only [go_sem, avE_eq]) (by simp only [go_sem, hA]) ?_
  by_cases h6 : 30 < depthE b
  · have k6 : decide ((30 : Int) < (depthE b : Int)) = true := decide_eq_true (by omega)
    simp only [go_sem, hA, k6, undef]
    refine goCall 300 awake_c rfl rfl (by simp only [go_sem, hA]) ?_
    simp only [go_sem, hA, Tryz.results5]
  have k6 : decide ((30 : Int) < (depthE b : Int)) = false := decide_eq_false (by omega)
  simp only [go_sem, hA, k6]
  refine goCall 300 cnm rfl rfl (by simp only [go_sem, hA]) ?_
  cases h7 : nameB nm with
  | false =>
    simp only [go_sem, hA]
    refine goCall 300 awake_c rfl rfl (by simp only [go_sem, hA]) ?_
    simp only [go_sem, hA, Tryz.results5]
  | true =>
  have na := greatE_le h1
  have nb := greatE_le h2
  have hla := freeX_length a
  have hlb := freeX_length b
  have cfa := sFree_c a (by omega) (fun h => checkX_shp h)
  have cfb := sFree_c b (by omega) (fun h => checkX_shp h)
  have vf := fun_ok h7 h4 nb (by omega)
  have vl : checkX (letE nm a b) = 0 := by rw [let_iff h3 h4 na nb (by omega) (by omega), h7]; rfl
  have nf : nodesE (funE nm b) = nodesE b + 1 := by simp [funE, nodesE, nodesL]
  have nl : nodesE (letE nm a b) = nodesE a + nodesE b + 1 := by simp [letE, nodesE, nodesL]
  have cff := sFree_c (funE nm b) (by omega) (fun h => checkX_shp h)
  have cfl := sFree_c (letE nm a b) (by omega) (fun h => checkX_shp h)
  rw [sfreeX_eq] at cfa cfb cff cfl
  have fa : freeX a = freeE a [] [] := if_pos h3
  have fb : freeX b = freeE b [] [] := if_pos h4
  have ff : freeX (funE nm b) = dropN nm (freeX b) := by rw [show freeX (funE nm b) = freeE (funE nm b) [] [] from if_pos vf, fb, free_fun nm b (checkX_E h4).1]
  have fl : freeX (letE nm a b) = foldW (foldW [] (freeX a)) (dropN nm (freeX b)) := by rw [show freeX (letE nm a b) = freeE (letE nm a b) [] [] from if_pos vl, fa, fb]; exact free_let nm a b (checkX_E h4).1
  rw [ff] at cff
  rw [fl] at cfl
  obtain ⟨x, hx⟩ : ∃ x, freeX a = x := ⟨_, rfl⟩
  obtain ⟨y, hy⟩ : ∃ y, freeX b = y := ⟨_, rfl⟩
  rw [hx] at cfa cfl hla
  rw [hy] at cfb cff cfl hlb
  simp only [go_sem, hA, mixed]
  refine goCallD 300 cfa rfl (by simp only [go_sem, avE_eq]) (by simp only [go_sem, hA]) ?_
  simp only [go_sem, hA]
  refine goCallD 300 cfb rfl (by simp only [go_sem, avE_eq]) (by simp only [go_sem, hA]) ?_
  simp only [go_sem, hA, encS_length]
  refine ⟨by show chk _ _ _ = true; kernel_rfl, ?_⟩
  refine satC_dataTmp 9 4000 [] rfl ?_
  refine satC_loop [2, 3, 4, 8, 9, 10, 55, 56, 57] [0, 1] [4001] (fun z σ => ∃ q : Nat, q ≤ x.length ∧ z = x.length - q ∧ σ = lf1St a b nm x y q) x.length ⟨0, by omega, by omega, by simp only [go_sem, lf1St]; rfl⟩ ?_
  rintro z σ ⟨q, hq, rfl, rfl⟩
  refine goC 400 ?_
  by_cases hlt : q < x.length
  · have k1 : decide ((q : Int) < (x.length : Int)) = true := decide_eq_true (by omega)
    have hsz := foldW_length (x.take q) []
    have hcw := rWith_c (foldW [] (x.take q)) x[q] (by simp at hsz; omega)
    have hsn := foldW_snoc [] (x.take q) x[q]
    rw [← List.take_succ_eq_append_getElem hlt] at hsn
    simp only [go_sem, hA, lf1St, encS_length, k1, Int.toNat_natCast, encS_at x q hlt]
    refine ⟨⟨by omega, by omega⟩, ?_⟩
    refine goCall 300 hcw rfl (by simp only [go_sem]) (by simp only [go_sem, hA]) ?_
    simp only [go_sem, hA]
    exact ⟨by unfold inI64; omega, x.length - (q + 1), by omega, q + 1, by omega, rfl, by rw [← hsn]; rfl⟩
  have k1 : decide ((q : Int) < (x.length : Int)) = false := decide_eq_false (by omega)
  obtain rfl : q = x.length := by omega
  simp only [go_sem, hA, lf1St, encS_length, k1, List.take_length]
  refine satC_loop [2, 3, 4, 9, 10, 65, 66, 67] [0, 1] [4001] (fun z σ => ∃ q : Nat, q ≤ y.length ∧ z = y.length - q ∧ σ = lf2St a b nm x y q) y.length ⟨0, by omega, by omega, by simp only [go_sem, lf2St]; rfl⟩ ?_
  rintro z σ ⟨q, hq, rfl, rfl⟩
  refine goC 400 ?_
  have hdl : (dropN nm (y.take q)).length ≤ q := by
    have h1 : (dropN nm (y.take q)).length ≤ (y.take q).length := List.length_filter_le _ _
    rw [List.length_take] at h1; omega
  have hsz1 := foldW_length x []
  have hsz2 := foldW_length (dropN nm (y.take q)) (foldW [] x)
  by_cases hlt : q < y.length
  · have k1 : decide ((q : Int) < (y.length : Int)) = true := decide_eq_true (by omega)
    have hds := dropN_succ nm y q hlt
    by_cases he : y[q] = nm
    · have k2 : (decide ¬ y[q] = nm) = false := decide_eq_false (fun h => h he)
      rw [if_pos he, List.append_nil] at hds
      simp only [go_sem, hA, lf2St, encS_length, k1, k2, Int.toNat_natCast, encS_at y q hlt]
      exact ⟨⟨by omega, by omega⟩, by unfold inI64; omega, y.length - (q + 1), by omega, q + 1, by omega, rfl, by rw [hds]; rfl⟩
    · have k2 : (decide ¬ y[q] = nm) = true := decide_eq_true he
      rw [if_neg he] at hds
      have hcw := rWith_c (foldW (foldW [] x) (dropN nm (y.take q))) y[q] (by simp at hsz1; omega)
      have hsn := foldW_snoc (foldW [] x) (dropN nm (y.take q)) y[q]
      rw [← hds] at hsn
      simp only [go_sem, hA, lf2St, encS_length, k1, k2, Int.toNat_natCast, encS_at y q hlt]
      refine ⟨⟨by omega, by omega⟩, ?_⟩
      refine goCall 300 hcw rfl (by simp only [go_sem]) (by simp only [go_sem, hA]) ?_
      simp only [go_sem, hA, encS_length]
      refine ⟨⟨encS_fit [y[q]], encS_row _, by omega⟩, by unfold inI64; omega, y.length - (q + 1), by omega, q + 1, by omega, rfl, ?_⟩
      rw [← hsn, hds, List.length_append, ← encS_append]
      rfl
  have k1 : decide ((q : Int) < (y.length : Int)) = false := decide_eq_false (by omega)
  obtain rfl : q = y.length := by omega
  have hfe : avE (funE nm b) = .agg [.d (.raw (.int .i64 6)), .d (.raw (.string nm)), .d (.raw (.string ⟨#[]⟩)), .d (.raw (.int .i64 0)), .d (.raw (.int .i64 0)), .d (.sl [[.raw (.int .i64 b.kind), .raw (.string b.name), .raw (.string b.more), .raw (.int .i64 b.int), .raw (.int .i64 b.den), .sl (encL b.sub)]])] := by
    rw [avE_eq, ← encE_eq b]; rfl
  have hle : avE (letE nm a b) = .agg [.d (.raw (.int .i64 8)), .d (.raw (.string nm)), .d (.raw (.string ⟨#[]⟩)), .d (.raw (.int .i64 0)), .d (.raw (.int .i64 0)), .d (.sl [[.raw (.int .i64 a.kind), .raw (.string a.name), .raw (.string a.more), .raw (.int .i64 a.int), .raw (.int .i64 a.den), .sl (encL a.sub)], [.raw (.int .i64 b.kind), .raw (.string b.name), .raw (.string b.more), .raw (.int .i64 b.int), .raw (.int .i64 b.den), .sl (encL b.sub)]])] := by
    rw [avE_eq, ← encE_eq a, ← encE_eq b]; rfl
  rw [List.take_length] at hdl hsz2
  have cs1 := rSameStrings_c (dropN nm y) (dropN nm y) (by omega)
  have cs2 := rSameStrings_c (foldW (foldW [] x) (dropN nm y)) (foldW (foldW [] x) (dropN nm y)) (by simp at hsz1; omega)
  rw [sameS_refl] at cs1 cs2
  simp only [go_sem, hA, lf2St, k1, List.take_length, cellsX]
  refine goCall 300 cff rfl (by simp only [go_sem, hfe]) (by simp only [go_sem, hA]) ?_
  simp only [go_sem, hA]
  refine goCall 300 cfl rfl (by simp only [go_sem, hle]) (by simp only [go_sem, hA]) ?_
  simp only [go_sem, hA]
  refine goCall 300 cs1 rfl (by simp only [go_sem]) (by simp only [go_sem, hA]) ?_
  simp only [go_sem, hA]
  refine goCall 300 cs2 rfl (by simp only [go_sem]) (by simp only [go_sem, hA]) ?_
  simp only [go_sem, hA]
  refine goCall 300 awake_c rfl rfl (by simp only [go_sem, hA]) ?_
  simp only [go_sem, hA, Tryz.results5]
end Go.Proofs.YtnphcjpccieljaaGreatDoor
