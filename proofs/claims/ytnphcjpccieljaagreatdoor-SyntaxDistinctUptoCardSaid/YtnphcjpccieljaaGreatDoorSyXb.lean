/- line and Text of the reference of layer 21, walked. -/
import Derived.Test.YtnphcjpccieljaaGreatDoorGYh
import Derived.Test.YtnphcjpccieljaaGreatDoorGYg
namespace Go.Proofs.YtnphcjpccieljaaGreatDoor
open Go Go.RowKit
def rl1 (x : Dc) : ByteArray := if x.doubt then bs [99, 111, 110, 102, 108, 105, 99, 116, 32] else bs []
def rl2 (x : Dc) : ByteArray := if x.pub then rl1 x ++ bs [112, 117, 98, 32] else rl1 x
def kindS (k : Int) : ByteArray := if k = 1 then bs [108, 101, 116, 32] else if k = 2 then bs [116, 101, 115, 116, 32] else bs [102, 108, 97, 107, 121, 32]
def rl3 (x : Dc) : ByteArray := rl2 x ++ kindS x.kind ++ namesB x.names
def rl4 (x : Dc) : ByteArray := if x.id = 0 then rl3 x else rl3 x ++ bs [32, 64] ++ itoaB x.id
theorem kindS_at {k : Int} (h : 1 ≤ k ∧ k ≤ 3) : ([[.raw (.string ⟨#[]⟩)], [.raw (.string ⟨#[108, 101, 116, 32]⟩)], [.raw (.string ⟨#[116, 101, 115, 116, 32]⟩)], [.raw (.string ⟨#[102, 108, 97, 107, 121, 32]⟩)]] : List (List D)).getD k.toNat [] = [.raw (.string (kindS k))] := by
  have : k = 1 ∨ k = 2 ∨ k = 3 := by omega
  rcases this with rfl | rfl | rfl <;> rfl
theorem kindS_eq (k : Int) : kindS k = kindW k ++ bs [32] := by
  unfold kindS kindW
  split
  · exact ba_inj rfl
  · split
    · exact ba_inj rfl
    · exact ba_inj rfl
theorem rl_line (x : Dc) : rl4 x ++ bs [32, 61, 32] ++ txE x.body ++ bs [32, 59, 10] = dLine x := by
  apply ba_inj
  unfold dLine dParts midD preD rl4 rl3 rl2 rl1 namesB
  rw [kindS_eq]
  by_cases h1 : x.doubt = true <;> by_cases h2 : x.pub = true <;> by_cases h3 : x.id = 0 <;> simp [h1, h2, h3, bs, joinB, Lib.join_cons, Lib.joinTail]
theorem kindS_size (k : Int) : (kindS k).size ≤ 6 := by
  have h := kindW_size k
  have e : (bs [32]).size = 1 := rfl
  rw [kindS_eq, ba_size]; omega
theorem rl3_size {x : Dc} (h : OkD x) : (rl3 x).size ≤ 200 ∧ (rl2 x).size ≤ 13 ∧ (rl1 x).size ≤ 9 := by
  have h1 : (rl1 x).size ≤ 9 := by unfold rl1; split <;> simp [bs_size]
  have h2 : (rl2 x).size ≤ 13 := by
    unfold rl2
    split
    · have e : (bs [112, 117, 98, 32]).size = 4 := rfl
      rw [ba_size]; omega
    · omega
  have h3 := kindS_size x.kind
  have h4 := namesB_size x.names
  have h5 := h.nmsum
  have h6 := h.len
  refine ⟨?_, h2, h1⟩
  unfold rl3
  rw [ba_size, ba_size]
  omega
abbrev rlSt (x : Dc) (s : ByteArray) : St := ⟨[(1, .box 0 0), (3, .d (.raw (.string s)))], [(0, some (dcCell x))], []⟩
set_option maxRecDepth 100000 in
set_option maxHeartbeats 16000000 in
theorem rline_c (x : Dc) (hb : nodesE x.body ≤ 524288) (ok : OkD x) : Con Tryz.prog 43 [avD x] (.d (.raw (.string (dLine x)))) := by
  have hfull := fullE_ok _ (checkX_full ok.chk ok.ref)
  have ct := rtext_c (nodesE x.body + 1) x.body (by omega) (by omega) hfull
  have hid : inI64 x.id := by have := ok.id; unfold inI64; omega
  have cd := rDecimal_c x.id hid
  have hnl := ok.len
  have hns := ok.nmsum
  have cn := rnames_c x.names (by omega) (by omega)
  obtain ⟨z3, z2, z1⟩ := rl3_size ok
  have zt := txE_size x.body hfull
  have zn := (checkX_E ok.chk).2.1
  have zd := itoaB_size x.id hid
  refine con_of Tryz.func43 rfl (by decide +kernel) rfl rfl (by simp [Tryz.ntmps43]) fun A hA => ?_
  rw [Tryz.ntmps43] at hA
  refine goC 20 ?_
  simp only [go_sem, hA, avD]
  refine goMid 300 [1, 3] [0] [] (fun σ => σ = rlSt x (rl1 x)) ?_ ?_
  · cases hd : x.doubt with
    | false =>
      have hp : rl1 x = bs [] := by unfold rl1; rw [hd]; rfl
      simp only [go_sem, hA, hp, rlSt, dcCell, hd]
    | true =>
      have hp : rl1 x = bs [99, 111, 110, 102, 108, 105, 99, 116, 32] := by unfold rl1; rw [hd]; rfl
      simp only [go_sem, hA, hp, rlSt, dcCell, hd]
  rintro σ rfl
  refine goMid 300 [1, 3] [0] [] (fun σ => σ = rlSt x (rl2 x)) ?_ ?_
  · cases hd : x.pub with
    | false =>
      have hp : rl2 x = rl1 x := by unfold rl2; rw [hd]; rfl
      simp only [go_sem, hA, hp, rlSt, dcCell, hd]
    | true =>
      have hp : rl2 x = rl1 x ++ bs [112, 117, 98, 32] := by unfold rl2; rw [hd]; rfl
      simp only [go_sem, hA, hp, rlSt, dcCell, hd]
      omega
  rintro σ rfl
  refine goMid 300 [1, 3] [0] [] (fun σ => σ = rlSt x (rl3 x)) ?_ ?_
  · simp only [go_sem, hA, rlSt, dcCell, kindS_at ok.kind, mixed]
    have hks := kindS_size x.kind
    have hkk := ok.kind
    refine ⟨by omega, by omega, ?_⟩
    refine goCallD 300 cn rfl (by simp only [go_sem]) (by simp only [go_sem, hA]) ?_
    have z5 : (rl2 x).size + (kindS x.kind).size + (namesB x.names).size ≤ 200 := by
      have h := z3
      unfold rl3 at h
      rw [ba_size, ba_size] at h
      exact h
    simp only [go_sem, hA]
    exact ⟨by omega, by show chk _ _ _ = true; kernel_rfl, rfl⟩
  rintro σ rfl
  refine goMid 300 [1, 3] [0] [] (fun σ => σ = rlSt x (rl4 x)) ?_ ?_
  · by_cases h0 : x.id = 0
    · have k0 : (decide ¬ x.id = 0) = false := decide_eq_false (fun h => h h0)
      have hm : rl4 x = rl3 x := if_pos h0
      simp only [go_sem, hA, rlSt, dcCell, k0, hm]
    · have k0 : (decide ¬ x.id = 0) = true := decide_eq_true h0
      have hm : rl4 x = rl3 x ++ bs [32, 64] ++ itoaB x.id := if_neg h0
      simp only [go_sem, hA, rlSt, dcCell, k0, hm]
      refine ⟨by omega, ?_⟩
      refine goCall 300 cd rfl rfl (by simp only [go_sem, hA]) ?_
      simp only [go_sem, hA]
      omega
  rintro σ rfl
  refine goC 300 ?_
  have z4 : (rl4 x).size ≤ 230 := by
    unfold rl4
    split
    · omega
    · have e : (bs [32, 64]).size = 2 := rfl
      rw [ba_size, ba_size]; omega
  have hl := rl_line x
  simp only [go_sem, hA, rlSt, dcCell]
  refine ⟨by omega, ?_⟩
  refine goCall 300 ct rfl (by simp only [go_sem, avE_eq]) (by simp only [go_sem, hA]) ?_
  simp only [go_sem, hA, Tryz.results43]
  exact ⟨by omega, by omega, by rw [← hl]⟩
abbrev rt1St (x : Sr) (q : Nat) : St := ⟨[(1, .box 0 0), (5, .d (.raw (.string (bs (upT x q))))), (6, .d (.raw (.int .i64 q)))], [(0, some (.cell 25 [.d (.sl (encS x.uses)), .d (.sl (encDs x.decls))]))], []⟩
abbrev rt2St (x : Sr) (q : Nat) : St := ⟨[(1, .box 0 0), (5, .d (.raw (.string (bs (dpT x q))))), (7, .d (.raw (.int .i64 q)))], [(0, some (.cell 25 [.d (.sl (encS x.uses)), .d (.sl (encDs x.decls))]))], []⟩
theorem bs_app (a : List UInt8) (s : ByteArray) : bs (a ++ s.data.toList) = bs a ++ s := ba_inj (by rw [ba_app])
theorem bs_upT (x : Sr) (q : Nat) (h : q < x.uses.length) : bs (upT x (q + 1)) = bs (upT x q) ++ bs [117, 115, 101, 32] ++ x.uses[q] ++ bs [32, 59, 10] := by
  rw [upT_succ x q h, bs_app]
  apply ba_inj
  simp [useB]
theorem dpT_size {x : Sr} (ok : OkSr x) (q : Nat) : (dpT x q).length ≤ 1940 + 157001 * 100 := by
  have h1 := ok.uses_size
  have h2 := sumB_le (n := 157001) ((x.decls.take q).map dLine) fun s hs => by
    obtain ⟨d, hd, rfl⟩ := List.mem_map.1 hs
    exact (ok.dec d (List.mem_of_mem_take hd)).line_size
  have h3 := ok.decls
  rw [List.length_map, List.length_take] at h2
  unfold dpT
  rw [catL_append, List.length_append, catL_length, catL_length]
  have : 157001 * min q x.decls.length ≤ 157001 * 100 := Nat.mul_le_mul_left _ (by omega)
  omega
set_option maxRecDepth 100000 in
set_option maxHeartbeats 16000000 in
theorem rtextS_c (x : Sr) (hb : ∀ d ∈ x.decls, nodesE d.body ≤ 524288) : Con Tryz.prog 14 [avS x] (.tup [.d (.raw (.string (textX x).1)), .d (.raw (.int .i64 (textX x).2))]) := by
  have cs := rsource_c x hb
  rw [srcX_eq] at cs
  refine con_of Tryz.func14 rfl (by decide +kernel) rfl rfl (by simp [Tryz.ntmps14]) fun A hA => ?_
  rw [Tryz.ntmps14] at hA
  refine goC 400 ?_
  simp only [go_sem, hA, avS]
  refine goCall 300 cs rfl (by simp only [go_sem, avS]) (by simp only [go_sem, hA]) ?_
  by_cases h : srcX sdeclX x = 0
  case neg =>
    have g1 : (decide ¬ srcX sdeclX x = 0) = true := decide_eq_true h
    have hx : textX x = (⟨#[]⟩, srcX sdeclX x) := if_neg h
    simp only [go_sem, hA, g1, hx, Tryz.results14]
  have g1 : (decide ¬ srcX sdeclX x = 0) = false := decide_eq_false (fun h' => h' h)
  have ok := src_ok h
  have hx : textX x = if 65536 < (catL (srcParts x)).length then (⟨#[]⟩, 4) else (⟨(catL (srcParts x)).toArray⟩, 0) := if_pos h
  have hul := ok.uses
  have hdl := ok.decls
  simp only [go_sem, hA, g1]
  refine satC_loop [1, 5, 6] [0] [] (fun y σ => ∃ q : Nat, q ≤ x.uses.length ∧ y = x.uses.length - q ∧ σ = rt1St x q) x.uses.length ⟨0, by omega, by omega, by simp only [go_sem, rt1St]; rfl⟩ ?_
  rintro y σ ⟨q, hq, rfl, rfl⟩
  refine goC 300 ?_
  have hul1 := upT_le ok q
  by_cases hlt : q < x.uses.length
  · have k1 : decide ((q : Int) < (x.uses.length : Int)) = true := decide_eq_true (by omega)
    have hsucc := bs_upT x q hlt
    have hls := label_size (ok.lab _ (List.getElem_mem hlt))
    simp only [go_sem, hA, rt1St, encS_length, k1, Int.toNat_natCast, encS_at x.uses q hlt]
    exact ⟨by omega, ⟨by omega, by omega⟩, by omega, by omega, by unfold inI64; omega, x.uses.length - (q + 1), by omega, q + 1, by omega, rfl, by rw [hsucc]; rfl⟩
  have k1 : decide ((q : Int) < (x.uses.length : Int)) = false := decide_eq_false (by omega)
  obtain rfl : q = x.uses.length := by omega
  simp only [go_sem, hA, rt1St, encS_length, k1]
  refine satC_loop [1, 5, 7] [0] [] (fun y σ => ∃ q : Nat, q ≤ x.decls.length ∧ y = x.decls.length - q ∧ σ = rt2St x q) x.decls.length ⟨0, by omega, by omega, by simp only [go_sem, rt2St, dpT_zero]⟩ ?_
  rintro y σ ⟨q, hq, rfl, rfl⟩
  refine goC 300 ?_
  have hds := dpT_size ok q
  by_cases hlt : q < x.decls.length
  · have k1 : decide ((q : Int) < (x.decls.length : Int)) = true := decide_eq_true (by omega)
    obtain ⟨d, hd⟩ : ∃ d, x.decls[q] = d := ⟨_, rfl⟩
    have hdm : d ∈ x.decls := by rw [← hd]; exact List.getElem_mem hlt
    have okd := ok.dec d hdm
    have hsucc := dpT_succ x q hlt
    rw [hd] at hsucc
    have cl := rline_c d (hb d hdm) okd
    have hls := okd.line_size
    simp only [go_sem, hA, rt2St, encDs_length, k1, Int.toNat_natCast, encDs_at x.decls q hlt, hd, encD]
    refine ⟨⟨by omega, by omega⟩, ?_⟩
    refine goCall 300 cl rfl (by simp only [go_sem, avD]) (by simp only [go_sem, hA]) ?_
    simp only [go_sem, hA]
    exact ⟨by omega, by unfold inI64; omega, x.decls.length - (q + 1), by omega, q + 1, by omega, rfl, by rw [hsucc, bs_app]; rfl⟩
  have k1 : decide ((q : Int) < (x.decls.length : Int)) = false := decide_eq_false (by omega)
  obtain rfl : q = x.decls.length := by omega
  rw [dpT_all] at hds
  by_cases hgt : 65536 < (catL (srcParts x)).length
  · have k2 : decide ((65536 : Int) < ((catL (srcParts x)).length : Int)) = true := decide_eq_true (by omega)
    rw [if_pos hgt] at hx
    simp only [go_sem, hA, rt2St, encDs_length, k1, dpT_all, k2, hx, Tryz.results14]
  · have k2 : decide ((65536 : Int) < ((catL (srcParts x)).length : Int)) = false := decide_eq_false (by omega)
    rw [if_neg hgt] at hx
    simp only [go_sem, hA, rt2St, encDs_length, k1, dpT_all, k2, hx, Tryz.results14]
end Go.Proofs.YtnphcjpccieljaaGreatDoor
