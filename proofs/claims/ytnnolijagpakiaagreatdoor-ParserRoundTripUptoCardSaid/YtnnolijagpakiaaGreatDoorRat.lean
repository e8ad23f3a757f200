/- Texts of this proof, part 20: what the proof uses of them. -/
import Derived.Test.YtnnolijagpakiaaGreatDoorRas
namespace Go.Proofs.YtnnolijagpakiaaGreatDoor
section
open Go Go.RowKit
attribute [local go_sem] Oper.semAt_some
theorem LRel.same {P : Program} {F F' : Nat → Nat → Prop} {w w' : World} {m m' : Nat → Nat} {tv tv' : Nat → Value} {L L' : Lent} (h : LRel P F w m tv L F' w' m' tv' L') (hLok : LentOk P F m tv w L) (hF : ∀ b o, F b o → b < w.heap.size) {b o : Nat} (hf : F b o) : w'.heap[b]? = w.heap[b]? := by
 refine h.below.block b (hF b o hf) fun hx => ?_
 rcases hx with ⟨r, b', hr, rfl⟩ | ⟨r, k, hr, hx⟩
 ·exact hLok.nF r b' hr o hf
 ·exact hLok.tF r k b hr hx o hf
def adds (s : RS) (ps : List PV) (k : Nat) : RS := (ps.reverse.take k).foldl pushTd s
theorem adds_zero (s : RS) (ps : List PV) : adds s ps 0 = s := by simp [adds]
theorem adds_all (s : RS) (ps : List PV) : adds s ps ps.length = addTd s ps := by
 unfold adds addTd
 rw [List.take_of_length_le (by simp)]
def pAt (ps : List PV) (k : Nat) : PV := ps.reverse.getD k ⟨0, ⟨#[]⟩, 0, ⟨#[]⟩, 0, 0, 0⟩
theorem pAt_eq (ps : List PV) (k : Nat) (h : k < ps.length) : pAt ps k = ps[ps.length - 1 - k]'(by omega) := by
 unfold pAt
 rw [List.getD_eq_getElem?_getD, List.getElem?_eq_getElem (by simpa using h), Option.getD_some, List.getElem_reverse]
theorem adds_succ (s : RS) (ps : List PV) (k : Nat) (h : k < ps.length) : adds s ps (k + 1) = pushTd (adds s ps k) (pAt ps k) := by
 rw [pAt_eq ps k h]
 unfold adds
 rw [List.take_succ_eq_append_getElem (by simpa using h), List.foldl_append]
 simp
theorem adds_len (s : RS) (ps : List PV) (hs : s.td.len ≤ s.td.rows.length) : ∀ k, k ≤ ps.length → (adds s ps k).td.len = s.td.len + k ∧ (adds s ps k).td.len ≤ (adds s ps k).td.rows.length
 | 0, _ => by rw [adds_zero]; exact ⟨rfl, hs⟩
 | k + 1, h => by
  obtain ⟨h1, h2⟩ := adds_len s ps hs k (by omega)
  rw [adds_succ s ps k (by omega)]
  refine ⟨by simp only [pushTd, Sk.push]; omega, ?_⟩
  simp only [pushTd, Sk.push, List.length_append, List.length_take, List.length_singleton]
  omega
theorem zip2 (T : Array Value) (x y : Value) : Array.foldl (fun t (p : Nat × Value) => t.setIfInBounds p.fst p.snd) T ((#[8, 9] : Array Nat).zip #[x, y]) = (T.setIfInBounds 8 x).setIfInBounds 9 y := by
 simp
theorem fitPV (p : PV) : rowsFit 11 [encPV p] := by
 intro r hr
 rw [List.mem_singleton] at hr
 subst hr
 refine ⟨rfl, fun x hx => ?_⟩
 simp only [List.mem_cons, List.not_mem_nil, or_false] at hx
 rcases hx with rfl | rfl | rfl | rfl | rfl | rfl | rfl | rfl | rfl | rfl | rfl <;> rfl
abbrev addL (s : RS) : Lent := Lq 902 (.cell 58 [.box 901 0]) (rdL s)
set_option maxRecDepth 100000 in
set_option maxHeartbeats 8000000 in
theorem add_r (s : RS) (ps : List PV) (h0 : 0 < ps.length) (hlen : ps.length ≤ 1000) (hs : s.td.len ≤ s.td.rows.length) (hb : s.td.len + ps.length ≤ 1073741824) :
  ConL Tryz.prog 75 [.box 901 0, .d (.sl (ps.map encPV))] (rdL s) (fun o => o = .ret (.tup []) (rdL (addTd s ps))) := by
 refine ⟨⟨_, Tryz.func75, by decide +kernel, rfl⟩, fun F w vs m tv hF hG hLok hl hv => ?_⟩
 match vs, hl with
 | [p, q], _ =>
 have hp := hv 0 (by simp) (by simp)
 have hq := hv 1 (by simp) (by simp)
 simp only [List.getElem_cons_zero, List.getElem_cons_succ] at hp hq
 obtain rfl := hp.box_eq
 have hq' := hq.sl
 clear hp hv
 refine (callsIn_wide (n := 2)).1 ?_
 refine callsIn_of_wp_marks Tryz.func75 rfl trivial ?_ rfl
 simp only [Tryz.ntmps75, List.size_toArray, List.length_cons, List.length_nil, Nat.reduceAdd, Nat.reduceSub, Array.replicate_succ, Array.replicate_zero, List.push_toArray, List.append_toArray, List.nil_append, List.cons_append]
 obtain ⟨wA, hwA⟩ : ∃ wA, w.alloc (.cells #[.pointer (some ⟨m 901, 0, none⟩)] 58) = wA := ⟨_, rfl⟩
 have hbA : Below w.heap.size w wA := by rw [← hwA]; exact (Below.refl _ _).alloc (Nat.le_refl _) _
 have hsA : wA.heap.size = w.heap.size + 1 := by rw [← hwA]; simp
 have hb0 : wA.heap[w.heap.size]? = some (.cells #[.pointer (some ⟨m 901, 0, none⟩)] 58 (0, 0)) := by rw [← hwA]; exact World.alloc_heap_new w _
 have hGA : Glob Tryz.prog wA := hG.keep (X := fun _ => False) (.of hbA) fun _ h => h.elim
 have hqA : Reads wA F (.sl (ps.map encPV)) q := hq'.mono (fun _ _ h => h) fun b o u hf hu => (hbA.cell (p := ⟨b, o, none⟩) (hF b o hf)).trans hu
 have HC := Lib.hid ((backward_c (ps.map encPV)).2.2 F wA [q] (fun b o hf => by have := hF b o hf; omega) hGA rfl fun i hi hv => by
  match i, hi with
  | 0, _ => exact .d hqA)
 gi_wp2_with (first | (rw [hwA]; done))
 refine ⟨trivial, (callsIn_wide.2 HC.out).mono ?_⟩
 rintro e wB ⟨u, rfl, hu, hbB⟩
 obtain ⟨us, rfl, hul, hus⟩ := Has.fn_eq hu
 -- the loop
 match us, hul, hus with
 | [b1v], _, hus =>
 have hb1 := hus 0 (by simp) (by simp)
 simp only [List.getElem_cons_zero] at hb1
 obtain ⟨b1, o1, rfl, hc1⟩ := hb1.at_eq
 obtain ⟨hf1, u, hcu, hru⟩ := hc1 0 (by simp)
 simp only [Nat.add_zero, List.getElem_cons_zero] at hf1 hcu hru
 obtain ⟨b, off, cap, vs, rfl, hcap, hvl, h11, hcells⟩ := parts_of hru h0
 have hsB := hbB.size
 obtain ⟨F', hF'⟩ : ∃ F' : Nat → Nat → Prop, (fun b o => F b o ∨ (wA.heap.size ≤ b ∧ b < wB.heap.size)) = F' := ⟨_, rfl⟩
 simp only [gh0] at hf1
 have hfm : ∀ b o, F' b o ↔ F b o ∨ (wA.heap.size ≤ b ∧ b < wB.heap.size) := fun b o => by rw [← hF']
 rw [hF'] at hcells
 obtain ⟨m1, hm1⟩ : ∃ m1, updN m 902 w.heap.size = m1 := ⟨_, rfl⟩
 have hm902 : m1 902 = w.heap.size := by rw [← hm1]; exact updN_same _ _ _
 have hmo : ∀ r, r ≠ 902 → m1 r = m r := fun r hr => by rw [← hm1]; exact updN_other hr
 have hlow := hG.low
 have hn : ∀ s : RS, look (rdL s).blks 902 = none := fun s => rfl
 have hatlt : ∀ x, (rdL s).at m tv x → x < w.heap.size := fun x hx => by
  rcases hx with ⟨r, b, hr, rfl⟩ | ⟨r, k, hr, hx⟩
  ·exact (hLok.at_ r b hr).lt
  ·exact hLok.tlt hr hx
 have hblk1 : ∀ (s : RS) r b, (rdL s).blk r b → b.ment 902 = false ∧ b.ment 903 = false ∧ b.lentOk = true := fun s r b hr => by
  unfold Lent.blk at hr
  simp only [look] at hr
  split at hr
  ·cases hr; exact ⟨rfl, rfl, rfl⟩
  ·cases hr
 have hwAB : ∀ x, x < wA.heap.size → wB.heap[x]? = wA.heap[x]? := fun x hx => hbB.block x hx
 have hwB : ∀ x, x < w.heap.size → wB.heap[x]? = w.heap[x]? := fun x hx => (hwAB x (by omega)).trans (hbA.block x hx)
 have hLokB : LentOk Tryz.prog F' m1 tv wB (addL s) := by
  have k0 : LentOk Tryz.prog F' m1 tv wB (rdL s) := hLok.keep 902 (hn s) hmo (fun r b hr => (hblk1 s r b hr).1) (fun x hx => hwB x (hatlt x hx)) (fun b o h => (hfm b o).2 (.inl h)) (fun b o h => ((hfm b o).1 h).imp id fun h hx => by have := hatlt _ hx; omega) fun b o hf => hwB b (hF b o hf)
  refine k0.cons 902 rfl (hn s) ⟨[.pointer (some ⟨m 901, 0, none⟩)], by rw [hm902, hwAB _ (by omega)]; exact hb0, rfl, fun j hj hj' => ?_⟩ (by rw [hm902]; omega) (fun hx => ?_) (fun j hf => ?_)
  ·match j, hj with
   | 0, _ => rw [← hmo 901 (by decide)]; exact .box 901 0
  ·rw [hm902] at hx
   have := hatlt _ ((Lent.at_congr (hn s) hmo).1 hx)
   omega
  ·rw [hm902] at hf
   rcases (hfm _ _).1 hf with h | h
   ·have := hF _ _ h; omega
   ·omega
 have hGB : Glob Tryz.prog wB := hGA.keep (X := fun _ => False) (.of hbB) fun _ h => h.elim
 have hFB : ∀ b o, F' b o → b < wB.heap.size := fun b o hf => by
  rcases (hfm b o).1 hf with h | h
  ·have := hF _ _ h; omega
  ·exact h.2
 gi_wp2_with fail
 have hN0 : vs.length = ps.length := hvl
 refine wpIn_range_lent rfl (enters_of Tryz.func170 (by kernel_rfl) rfl) ps.length (fun k => #[.int .i64 ((ps.length - 1 - k : Nat) : Int), .agg (vs.getD (ps.length - 1 - k) []).toArray]) (fun _ => rfl) (fun W => PartsAt W b1 o1 vs) ?hit (fun k => addL (adds s ps k)) hFB hGB (by rw [adds_zero]; exact hLokB) ?pre (fun _ => rfl) ?ment [902, 901] [910, 911, 912, 913] rfl (fun k => rfl)
  (fun k => [(2, .box 902 0), (8, .d (.raw (.int .i64 ((ps.length - 1 - k : Nat) : Int)))), (9, .agg ((encPV (pAt ps k)).map .d))]) ?hen3 ?henv ?hround ?hdone
 case hit =>
  intro l J W hJ hY hJ0
  have hY' : ∀ k W (h : k < vs.length), J (vs.length - 1 - k) W → YieldAt Fence.wide (1 - 1) Tryz.prog l #[.int .i64 k, .agg vs[k].toArray] W fun e B => e = .returned (.bool true) ∧ J (vs.length - k) B := fun k W h hJk => by
   have h1 := hY (vs.length - 1 - k) W (by omega) hJk
   have e1 : ps.length - 1 - (vs.length - 1 - k) = k := by omega
   have e2 : vs.length - 1 - k + 1 = vs.length - k := by omega
   simp only [e1, e2] at h1
   rw [List.getD_eq_getElem?_getD, List.getElem?_eq_getElem h, Option.getD_some] at h1
   exact h1
  have := back_in 1 l b1 o1 (Nat.le_refl _) vs (by omega) J hJ hY' W hJ0
  rw [hN0] at this
  exact this
 case pre =>
  intro W hW
  refine ⟨h11, by omega, b, off, cap, ?_, by omega, fun i hi j hj => ?_⟩
  ·have h1 := hW b1 o1 (by rw [← hF']; exact hf1)
   rw [← hN0] at hcu
   exact (cell_block h1).trans hcu
  ·have hi' : i < ps.length := by omega
   have hl11 := h11 _ (List.getElem_mem hi)
   obtain ⟨c1, c2, _⟩ := hcells i hi hi' j hj (by show j < 11; omega)
   exact (cell_block (hW _ _ c1)).trans c2
 case ment =>
  intro k r b hr
  rcases (Lq_blk (hn _)).1 hr with ⟨_, rfl⟩ | ⟨_, h⟩
  ·rfl
  ·exact (hblk1 _ r b h).2.1
 case hen3 =>
  intro k t
  unfold St.get
  simp only [look]
  split
  ·rfl
  ·split
   ·rfl
   ·split <;> rfl
 case henv =>
  intro k G W m' tv' hk hrel t
  have hm2 : m' 902 = w.heap.size := (hrel.fix 902 rfl).trans hm902
  have hp9 : Has ⟨m', tv', G⟩ (addL (adds s ps k)).tk W (.agg ((encPV (pAt ps k)).map .d)) (.agg (vs.getD (ps.length - 1 - k) []).toArray) := by
   have hi : ps.length - 1 - k < vs.length := by omega
   have hi' : ps.length - 1 - k < ps.length := by omega
   have hl11 := h11 _ (List.getElem_mem hi)
   rw [List.getD_eq_getElem?_getD, List.getElem?_eq_getElem hi, Option.getD_some, pAt_eq ps k hk]
   refine .agg _ _ (by rw [hl11]; rfl) fun j hj hj' => ?_
   rw [List.getElem_map]
   have hLok0 : LentOk Tryz.prog F' m1 tv wB (addL (adds s ps 0)) := by rw [adds_zero]; exact hLokB
   exact .d ((hcells _ hi hi' j hj' (by simpa using hj)).2.2.mono (fun b o h => hrel.sub b o h) fun b o u hf hu => (cell_block (hrel.same hLok0 hFB hf)).trans hu)
  unfold St.get
  simp only [look]
  rw [zip2]
  by_cases t2 : 2 = t
  ·subst t2
   rw [← hm2]
   exact .box 902 0
  by_cases t8 : 8 = t
  ·subst t8
   exact .d (.raw _)
  by_cases t9 : 9 = t
  ·subst t9
   exact hp9
  rw [if_neg t2, if_neg t8, if_neg t9]
  exact .dead _
 case hround =>
  intro k hk A o1 o2 hA
  have hA : A.N = 20 := hA
  obtain ⟨l1, l2⟩ := adds_len s ps hs k (by omega)
  rw [adds_succ s ps k hk]
  generalize adds s ps k = s' at l1 l2 ⊢
  generalize pAt ps k = pv
  refine goC0 300 ?_
  simp only [go_sem, hA]
  refine goC0 300 ?_
  simp only [go_sem, hA, mixed]
  refine ⟨⟨fitPV pv, l2, by omega⟩, by kernel_rfl, ?_⟩
  rfl
 case hdone =>
  intro D G W m' tv' hD hrel hdef hGD hatD
  have hLok0 : LentOk Tryz.prog F' m1 tv wB (addL (adds s ps 0)) := by rw [adds_zero]; exact hLokB
  rw [adds_all] at hrel hatD
  have hDs : D < W.heap.size := (Array.getElem?_eq_some_iff.1 hdef).1
  have hsW := hrel.below.size
  obtain ⟨u1, u2, u3, u4, u5⟩ := hrel.ok.uncons (hn _)
  obtain ⟨m2, hm2⟩ : ∃ m2, updN m' 902 (m 902) = m2 := ⟨_, rfl⟩
  have hm2o : ∀ r, r ≠ 902 → m2 r = m' r := fun r hr => by rw [← hm2]; exact updN_other hr
  gi_wp2_with fail
  refine ⟨by simp, .inl ⟨_, _, rfl, run_takeDeferred hdef, ?_⟩⟩
  refine ⟨.tuple #[], by simp [results, Tryz.f75], ?_, .inl ⟨.tuple #[], .tup [], rdL (addTd s ps), m2, tv', rfl, rfl, rfl, fun r b hr => (hblk1 _ r b hr).2.2, fun r v hr => ?_, fun r v hr => ?_, .tup [] [] rfl (fun i hi => by simp at hi), ?_, fun r hr => ?_, fun r k' hr => ?_, fun x hx => ?_⟩⟩
  ·refine ⟨hrel.below.os.trans (hbB.os.trans hbA.os), hrel.below.tape.trans (hbB.tape.trans hbA.tape), hrel.below.output.trans (hbB.output.trans hbA.output), by rw [size_putObj]; omega, fun k hk hx => ?_⟩
   rw [World.putObj_heap_other (by omega)]
   refine (hrel.below.block k (by omega) fun hx' => ?_).trans (hwB k hk)
   rcases (Lq_at (hn _)).1 hx' with e | e
   ·rw [hm902] at e; omega
   ·rw [adds_zero] at e
    exact hx ((Lent.at_congr (hn s) hmo).1 e)
  ·simp only [look] at hr
   split at hr
   ·rename_i e; subst e; rfl
   ·cases hr
  ·simp only [look] at hr
   split at hr
   ·rename_i e; subst e; rfl
   ·split at hr
    ·rename_i e; subst e; rfl
    ·split at hr
     ·rename_i e; subst e; rfl
     ·split at hr
      ·rename_i e; subst e; rfl
      ·cases hr
  ·have hne : ∀ x, (rdL (addTd s ps)).at m' tv' x → x ≠ D := fun x hx e => hatD (by subst e; exact (Lq_at (hn _)).2 (.inr hx))
   refine u1.keep 902 (hn _) hm2o (fun r b hr => (hblk1 _ r b hr).1) (fun x hx => World.putObj_heap_other (hne x hx)) (fun b o hf => ?_) (fun b o hf => ?_) fun b o hf => World.putObj_heap_other fun e => hGD o (e ▸ hf)
   ·have hnat : ¬ (rdL (addTd s ps)).at m2 tv' b := fun hx => by
     rcases (Lent.at_congr (hn _) hm2o).1 hx with ⟨r, b', hr, rfl⟩ | ⟨r, k, hr, hx⟩
     ·exact u1.nF r b' hr o hf
     ·exact u1.tF r k b hr hx o hf
    unfold freshBut
    rw [size_putObj]
    rcases hrel.new b o hf with h | h
    ·rcases (hfm b o).1 h with h | h
     ·exact .inl h
     ·exact .inr ⟨by omega, by omega, hnat⟩
    ·exact .inr ⟨by omega, h.2, hnat⟩
   ·rcases hf with h | h
    ·exact .inl (hrel.sub b o ((hfm b o).2 (.inl h)))
    ·exact .inr fun hx => h.2.2 ((Lent.at_congr (hn _) hm2o).2 hx)
  ·by_cases e : r = 902
   ·subst e; rw [← hm2]; exact updN_same _ _ _
   ·rw [hm2o r e, hrel.fix r hr, hmo r e]
  ·obtain ⟨k, h1, h2, h3⟩ := hrel.ver r k' hr
   rw [adds_zero] at h1
   exact ⟨k, h1, h2, h3⟩
  ·rcases hrel.at_ x ((Lq_at (hn _)).2 (.inr ((Lent.at_congr (hn _) hm2o).1 hx))) with e | e
   ·rcases (Lq_at (hn _)).1 e with e | e
    ·right; rw [hm902] at e; omega
    ·rw [adds_zero] at e
     exact .inl ((Lent.at_congr (hn s) hmo).1 e)
   ·right; omega
end
section
open Go Go.RowKit
abbrev pvO (k : Int) : PV := ⟨k, ⟨#[]⟩, 0, ⟨#[]⟩, 0, 0, 0⟩
abbrev pvW (s : ByteArray) : PV := ⟨1, s, 0, ⟨#[]⟩, 0, 0, 0⟩
abbrev pvS (s : ByteArray) : PV := ⟨2, s, 0, ⟨#[]⟩, 0, 0, 0⟩
abbrev pvJ (k a b c : Int) : PV := ⟨7, ⟨#[]⟩, k, ⟨#[]⟩, a, b, c⟩
theorem word_c (s : ByteArray) : Con Tryz.prog 169 [.d (.raw (.string s))] (.agg ((encPV (pvW s)).map .d)) := by
 refine con_of Tryz.func169 rfl (by decide +kernel) rfl rfl (by simp [Tryz.ntmps169]) fun A hA => ?_
 rw [Tryz.ntmps169] at hA
 refine goC 300 ?_
 simp only [go_sem, hA, Tryz.results169]
theorem sign_c (s : ByteArray) : Con Tryz.prog 140 [.d (.raw (.string s))] (.agg ((encPV (pvS s)).map .d)) := by
 refine con_of Tryz.func140 rfl (by decide +kernel) rfl rfl (by simp [Tryz.ntmps140]) fun A hA => ?_
 rw [Tryz.ntmps140] at hA
 refine goC 300 ?_
 simp only [go_sem, hA, Tryz.results140]
theorem join_c (k a b c : Int) : Con Tryz.prog 139 [.d (.raw (.int .i64 k)), .d (.raw (.int .i64 a)), .d (.raw (.int .i64 b)), .d (.raw (.int .i64 c))] (.agg ((encPV (pvJ k a b c)).map .d)) := by
 refine con_of Tryz.func139 rfl (by decide +kernel) rfl rfl (by simp [Tryz.ntmps139]) fun A hA => ?_
 rw [Tryz.ntmps139] at hA
 refine goC 300 ?_
 simp only [go_sem, hA, Tryz.results139]
structure Room (s : RS) (n : Nat) : Prop where
 le : s.td.len ≤ s.td.rows.length
 lt : s.td.len + n ≤ 1073741824
abbrev restFunP : List PV := [pvO 3, pvS ⟨#[45, 62]⟩, pvO 5, pvS ⟨#[41]⟩, pvJ 6 1 0 1]
set_option maxRecDepth 100000 in
set_option maxHeartbeats 4000000 in
theorem restFun_r (s : RS) (hs : Room s 20) : ConL Tryz.prog 128 [.box 901 0] (rdL s) (fun o => o = .ret (.tup []) (rdL (addTd s restFunP))) := by
 have hle := hs.le
 have hlt := hs.lt
 refine conL_of [901] [910, 911, 912, 913] Tryz.func128 rfl (by decide +kernel) (by simp [Tryz.ntmps128]) fun A hA => ?_
 rw [Tryz.ntmps128] at hA
 refine goC 300 ?_
 simp only [go_sem, hA]
 refine goCall 300 (only_c 3) rfl (by simp only [go_sem]) (by simp only [go_sem, hA]) ?_
 simp only [go_sem]
 refine goCall 300 (sign_c ⟨#[45, 62]⟩) rfl (by simp only [go_sem]) (by simp only [go_sem, hA]) ?_
 simp only [go_sem]
 refine goCall 300 (only_c 5) rfl (by simp only [go_sem]) (by simp only [go_sem, hA]) ?_
 simp only [go_sem]
 refine goCall 300 (sign_c ⟨#[41]⟩) rfl (by simp only [go_sem]) (by simp only [go_sem, hA]) ?_
 simp only [go_sem]
 refine goCall 300 (join_c 6 1 0 1) rfl (by simp only [go_sem]) (by simp only [go_sem, hA]) ?_
 simp only [go_sem, hA]
 refine goCallL [901] [910, 911, 912, 913] 300 (add_r s restFunP (by simp) (by simp) hle (by simp; omega)) rfl rfl rfl rfl rfl (by simp only [go_sem, hA]) (fun res L' h => ?_) (fun pv h => by cases h)
 cases h
 simp only [go_sem]
 exact ⟨.tup [], rfl, rfl, rfl⟩
abbrev restLetP : List PV := [pvO 3, pvS ⟨#[61]⟩, pvO 5, pvW ⟨#[105, 110]⟩, pvO 5, pvS ⟨#[41]⟩, pvJ 8 1 0 2]
set_option maxRecDepth 100000 in
set_option maxHeartbeats 4000000 in
theorem restLet_r (s : RS) (hs : Room s 20) : ConL Tryz.prog 129 [.box 901 0] (rdL s) (fun o => o = .ret (.tup []) (rdL (addTd s restLetP))) := by
 have hle := hs.le
 have hlt := hs.lt
 refine conL_of [901] [910, 911, 912, 913] Tryz.func129 rfl (by decide +kernel) (by simp [Tryz.ntmps129]) fun A hA => ?_
 rw [Tryz.ntmps129] at hA
 refine goC 300 ?_
 simp only [go_sem, hA]
 refine goCall 300 (only_c 3) rfl (by simp only [go_sem]) (by simp only [go_sem, hA]) ?_
 simp only [go_sem]
 refine goCall 300 (sign_c ⟨#[61]⟩) rfl (by simp only [go_sem]) (by simp only [go_sem, hA]) ?_
 simp only [go_sem]
 refine goCall 300 (only_c 5) rfl (by simp only [go_sem]) (by simp only [go_sem, hA]) ?_
 simp only [go_sem]
 refine goCall 300 (word_c ⟨#[105, 110]⟩) rfl (by simp only [go_sem]) (by simp only [go_sem, hA]) ?_
 simp only [go_sem]
 refine goCall 300 (only_c 5) rfl (by simp only [go_sem]) (by simp only [go_sem, hA]) ?_
 simp only [go_sem]
 refine goCall 300 (sign_c ⟨#[41]⟩) rfl (by simp only [go_sem]) (by simp only [go_sem, hA]) ?_
 simp only [go_sem]
 refine goCall 300 (join_c 8 1 0 2) rfl (by simp only [go_sem]) (by simp only [go_sem, hA]) ?_
 simp only [go_sem, hA]
 refine goCallL [901] [910, 911, 912, 913] 300 (add_r s restLetP (by simp) (by simp) hle (by simp; omega)) rfl rfl rfl rfl rfl (by simp only [go_sem, hA]) (fun res L' h => ?_) (fun pv h => by cases h)
 cases h
 simp only [go_sem]
 exact ⟨.tup [], rfl, rfl, rfl⟩
abbrev restIfP : List PV := [pvO 5, pvW ⟨#[116, 104, 101, 110]⟩, pvO 5, pvW ⟨#[101, 108, 115, 101]⟩, pvO 5, pvS ⟨#[41]⟩, pvJ 9 0 0 3]
set_option maxRecDepth 100000 in
set_option maxHeartbeats 4000000 in
theorem restIf_r (s : RS) (hs : Room s 20) : ConL Tryz.prog 130 [.box 901 0] (rdL s) (fun o => o = .ret (.tup []) (rdL (addTd s restIfP))) := by
 have hle := hs.le
 have hlt := hs.lt
 refine conL_of [901] [910, 911, 912, 913] Tryz.func130 rfl (by decide +kernel) (by simp [Tryz.ntmps130]) fun A hA => ?_
 rw [Tryz.ntmps130] at hA
 refine goC 300 ?_
 simp only [go_sem, hA]
 refine goCall 300 (only_c 5) rfl (by simp only [go_sem]) (by simp only [go_sem, hA]) ?_
 simp only [go_sem]
 refine goCall 300 (word_c ⟨#[116, 104, 101, 110]⟩) rfl (by simp only [go_sem]) (by simp only [go_sem, hA]) ?_
 simp only [go_sem]
 refine goCall 300 (only_c 5) rfl (by simp only [go_sem]) (by simp only [go_sem, hA]) ?_
 simp only [go_sem]
 refine goCall 300 (word_c ⟨#[101, 108, 115, 101]⟩) rfl (by simp only [go_sem]) (by simp only [go_sem, hA]) ?_
 simp only [go_sem]
 refine goCall 300 (only_c 5) rfl (by simp only [go_sem]) (by simp only [go_sem, hA]) ?_
 simp only [go_sem]
 refine goCall 300 (sign_c ⟨#[41]⟩) rfl (by simp only [go_sem]) (by simp only [go_sem, hA]) ?_
 simp only [go_sem]
 refine goCall 300 (join_c 9 0 0 3) rfl (by simp only [go_sem]) (by simp only [go_sem, hA]) ?_
 simp only [go_sem, hA]
 refine goCallL [901] [910, 911, 912, 913] 300 (add_r s restIfP (by simp) (by simp) hle (by simp; omega)) rfl rfl rfl rfl rfl (by simp only [go_sem, hA]) (fun res L' h => ?_) (fun pv h => by cases h)
 cases h
 simp only [go_sem]
 exact ⟨.tup [], rfl, rfl, rfl⟩
abbrev restCaseP : List PV := [pvO 5, pvW ⟨#[111, 102]⟩, pvW ⟨#[110, 105, 108]⟩, pvS ⟨#[45, 62]⟩, pvO 5, pvS ⟨#[124]⟩, pvO 3, pvS ⟨#[58, 58]⟩, pvO 3, pvS ⟨#[45, 62]⟩, pvO 5, pvS ⟨#[41]⟩, pvJ 13 2 0 3]
set_option maxRecDepth 100000 in
set_option maxHeartbeats 4000000 in
theorem restCase_r (s : RS) (hs : Room s 20) : ConL Tryz.prog 131 [.box 901 0] (rdL s) (fun o => o = .ret (.tup []) (rdL (addTd s restCaseP))) := by
 have hle := hs.le
 have hlt := hs.lt
 refine conL_of [901] [910, 911, 912, 913] Tryz.func131 rfl (by decide +kernel) (by simp [Tryz.ntmps131]) fun A hA => ?_
 rw [Tryz.ntmps131] at hA
 refine goC 300 ?_
 simp only [go_sem, hA]
 refine goCall 300 (only_c 5) rfl (by simp only [go_sem]) (by simp only [go_sem, hA]) ?_
 simp only [go_sem]
 refine goCall 300 (word_c ⟨#[111, 102]⟩) rfl (by simp only [go_sem]) (by simp only [go_sem, hA]) ?_
 simp only [go_sem]
 refine goCall 300 (word_c ⟨#[110, 105, 108]⟩) rfl (by simp only [go_sem]) (by simp only [go_sem, hA]) ?_
 simp only [go_sem]
 refine goCall 300 (sign_c ⟨#[45, 62]⟩) rfl (by simp only [go_sem]) (by simp only [go_sem, hA]) ?_
 simp only [go_sem]
 refine goCall 300 (only_c 5) rfl (by simp only [go_sem]) (by simp only [go_sem, hA]) ?_
 simp only [go_sem]
 refine goCall 300 (sign_c ⟨#[124]⟩) rfl (by simp only [go_sem]) (by simp only [go_sem, hA]) ?_
 simp only [go_sem]
 refine goCall 300 (only_c 3) rfl (by simp only [go_sem]) (by simp only [go_sem, hA]) ?_
 simp only [go_sem]
 refine goCall 300 (sign_c ⟨#[58, 58]⟩) rfl (by simp only [go_sem]) (by simp only [go_sem, hA]) ?_
 simp only [go_sem]
 refine goCall 300 (only_c 3) rfl (by simp only [go_sem]) (by simp only [go_sem, hA]) ?_
 simp only [go_sem]
 refine goCall 300 (sign_c ⟨#[45, 62]⟩) rfl (by simp only [go_sem]) (by simp only [go_sem, hA]) ?_
 simp only [go_sem]
 refine goCall 300 (only_c 5) rfl (by simp only [go_sem]) (by simp only [go_sem, hA]) ?_
 simp only [go_sem]
 refine goCall 300 (sign_c ⟨#[41]⟩) rfl (by simp only [go_sem]) (by simp only [go_sem, hA]) ?_
 simp only [go_sem]
 refine goCall 300 (join_c 13 2 0 3) rfl (by simp only [go_sem]) (by simp only [go_sem, hA]) ?_
 simp only [go_sem, hA]
 refine goCallL [901] [910, 911, 912, 913] 300 (add_r s restCaseP (by simp) (by simp) hle (by simp; omega)) rfl rfl rfl rfl rfl (by simp only [go_sem, hA]) (fun res L' h => ?_) (fun pv h => by cases h)
 cases h
 simp only [go_sem]
 exact ⟨.tup [], rfl, rfl, rfl⟩
abbrev restChanceP : List PV := [pvO 4, pvW ⟨#[111, 102]⟩, pvO 4, pvS ⟨#[41]⟩, pvJ 14 0 2 0]
set_option maxRecDepth 100000 in
set_option maxHeartbeats 4000000 in
theorem restChance_r (s : RS) (hs : Room s 20) : ConL Tryz.prog 132 [.box 901 0] (rdL s) (fun o => o = .ret (.tup []) (rdL (addTd s restChanceP))) := by
 have hle := hs.le
 have hlt := hs.lt
 refine conL_of [901] [910, 911, 912, 913] Tryz.func132 rfl (by decide +kernel) (by simp [Tryz.ntmps132]) fun A hA => ?_
 rw [Tryz.ntmps132] at hA
 refine goC 300 ?_
 simp only [go_sem, hA]
 refine goCall 300 (only_c 4) rfl (by simp only [go_sem]) (by simp only [go_sem, hA]) ?_
 simp only [go_sem]
 refine goCall 300 (word_c ⟨#[111, 102]⟩) rfl (by simp only [go_sem]) (by simp only [go_sem, hA]) ?_
 simp only [go_sem]
 refine goCall 300 (only_c 4) rfl (by simp only [go_sem]) (by simp only [go_sem, hA]) ?_
 simp only [go_sem]
 refine goCall 300 (sign_c ⟨#[41]⟩) rfl (by simp only [go_sem]) (by simp only [go_sem, hA]) ?_
 simp only [go_sem]
 refine goCall 300 (join_c 14 0 2 0) rfl (by simp only [go_sem]) (by simp only [go_sem, hA]) ?_
 simp only [go_sem, hA]
 refine goCallL [901] [910, 911, 912, 913] 300 (add_r s restChanceP (by simp) (by simp) hle (by simp; omega)) rfl rfl rfl rfl rfl (by simp only [go_sem, hA]) (fun res L' h => ?_) (fun pv h => by cases h)
 cases h
 simp only [go_sem]
 exact ⟨.tup [], rfl, rfl, rfl⟩
abbrev restConflictP : List PV := [pvO 5, pvS ⟨#[124, 124]⟩, pvO 5, pvS ⟨#[124, 124]⟩, pvO 5, pvS ⟨#[41]⟩, pvJ 15 0 0 3]
set_option maxRecDepth 100000 in
set_option maxHeartbeats 4000000 in
theorem restConflict_r (s : RS) (hs : Room s 20) : ConL Tryz.prog 133 [.box 901 0] (rdL s) (fun o => o = .ret (.tup []) (rdL (addTd s restConflictP))) := by
 have hle := hs.le
 have hlt := hs.lt
 refine conL_of [901] [910, 911, 912, 913] Tryz.func133 rfl (by decide +kernel) (by simp [Tryz.ntmps133]) fun A hA => ?_
 rw [Tryz.ntmps133] at hA
 refine goC 300 ?_
 simp only [go_sem, hA]
 refine goCall 300 (only_c 5) rfl (by simp only [go_sem]) (by simp only [go_sem, hA]) ?_
 simp only [go_sem]
 refine goCall 300 (sign_c ⟨#[124, 124]⟩) rfl (by simp only [go_sem]) (by simp only [go_sem, hA]) ?_
 simp only [go_sem]
 refine goCall 300 (only_c 5) rfl (by simp only [go_sem]) (by simp only [go_sem, hA]) ?_
 simp only [go_sem]
 refine goCall 300 (sign_c ⟨#[124, 124]⟩) rfl (by simp only [go_sem]) (by simp only [go_sem, hA]) ?_
 simp only [go_sem]
 refine goCall 300 (only_c 5) rfl (by simp only [go_sem]) (by simp only [go_sem, hA]) ?_
 simp only [go_sem]
 refine goCall 300 (sign_c ⟨#[41]⟩) rfl (by simp only [go_sem]) (by simp only [go_sem, hA]) ?_
 simp only [go_sem]
 refine goCall 300 (join_c 15 0 0 3) rfl (by simp only [go_sem]) (by simp only [go_sem, hA]) ?_
 simp only [go_sem, hA]
 refine goCallL [901] [910, 911, 912, 913] 300 (add_r s restConflictP (by simp) (by simp) hle (by simp; omega)) rfl rfl rfl rfl rfl (by simp only [go_sem, hA]) (fun res L' h => ?_) (fun pv h => by cases h)
 cases h
 simp only [go_sem]
 exact ⟨.tup [], rfl, rfl, rfl⟩
end
section
open Go Go.RowKit
abbrev restKs : List Value := [.string ⟨#[102, 117, 110]⟩, .string ⟨#[108, 101, 116]⟩, .string ⟨#[105, 102]⟩, .string ⟨#[99, 97, 115, 101]⟩, .string ⟨#[99, 104, 97, 110, 99, 101]⟩, .string ⟨#[99, 111, 110, 102, 108, 105, 99, 116]⟩]
abbrev restCs : List AV := [.fn 128 [], .fn 129 [], .fn 130 [], .fn 131 [], .fn 132 [], .fn 133 []]
theorem kne_1_0 : decide ((⟨#[108, 101, 116]⟩ : ByteArray) = ⟨#[102, 117, 110]⟩) = false := by decide
theorem kne_2_0 : decide ((⟨#[105, 102]⟩ : ByteArray) = ⟨#[102, 117, 110]⟩) = false := by decide
theorem kne_2_1 : decide ((⟨#[105, 102]⟩ : ByteArray) = ⟨#[108, 101, 116]⟩) = false := by decide
theorem kne_3_0 : decide ((⟨#[99, 97, 115, 101]⟩ : ByteArray) = ⟨#[102, 117, 110]⟩) = false := by decide
theorem kne_3_1 : decide ((⟨#[99, 97, 115, 101]⟩ : ByteArray) = ⟨#[108, 101, 116]⟩) = false := by decide
theorem kne_3_2 : decide ((⟨#[99, 97, 115, 101]⟩ : ByteArray) = ⟨#[105, 102]⟩) = false := by decide
theorem kne_4_0 : decide ((⟨#[99, 104, 97, 110, 99, 101]⟩ : ByteArray) = ⟨#[102, 117, 110]⟩) = false := by decide
theorem kne_4_1 : decide ((⟨#[99, 104, 97, 110, 99, 101]⟩ : ByteArray) = ⟨#[108, 101, 116]⟩) = false := by decide
theorem kne_4_2 : decide ((⟨#[99, 104, 97, 110, 99, 101]⟩ : ByteArray) = ⟨#[105, 102]⟩) = false := by decide
theorem kne_4_3 : decide ((⟨#[99, 104, 97, 110, 99, 101]⟩ : ByteArray) = ⟨#[99, 97, 115, 101]⟩) = false := by decide
theorem kne_5_0 : decide ((⟨#[99, 111, 110, 102, 108, 105, 99, 116]⟩ : ByteArray) = ⟨#[102, 117, 110]⟩) = false := by decide
theorem kne_5_1 : decide ((⟨#[99, 111, 110, 102, 108, 105, 99, 116]⟩ : ByteArray) = ⟨#[108, 101, 116]⟩) = false := by decide
theorem kne_5_2 : decide ((⟨#[99, 111, 110, 102, 108, 105, 99, 116]⟩ : ByteArray) = ⟨#[105, 102]⟩) = false := by decide
theorem kne_5_3 : decide ((⟨#[99, 111, 110, 102, 108, 105, 99, 116]⟩ : ByteArray) = ⟨#[99, 97, 115, 101]⟩) = false := by decide
theorem kne_5_4 : decide ((⟨#[99, 111, 110, 102, 108, 105, 99, 116]⟩ : ByteArray) = ⟨#[99, 104, 97, 110, 99, 101]⟩) = false := by decide
set_option maxRecDepth 100000 in
set_option maxHeartbeats 4000000 in
theorem rests_c : Con Tryz.prog 74 [] (.mapd restKs restCs) := by
 refine con_ofF [1000] Tryz.func74 rfl (by decide +kernel) rfl rfl (by simp [Tryz.ntmps74]) fun A hA => ?_
 rw [Tryz.ntmps74] at hA
 refine goC 300 ?_
 simp only [go_sem, hA, keyFit, kne_1_0, kne_2_0, kne_2_1, kne_3_0, kne_3_1, kne_3_2, kne_4_0, kne_4_1, kne_4_2, kne_4_3, kne_5_0, kne_5_1, kne_5_2, kne_5_3, kne_5_4, Tryz.results74]
def restOf (t : ByteArray) : Option (List PV) :=
 if t = ⟨#[102, 117, 110]⟩ then some restFunP
 else if t = ⟨#[108, 101, 116]⟩ then some restLetP
 else if t = ⟨#[105, 102]⟩ then some restIfP
 else if t = ⟨#[99, 97, 115, 101]⟩ then some restCaseP
 else if t = ⟨#[99, 104, 97, 110, 99, 101]⟩ then some restChanceP
 else if t = ⟨#[99, 111, 110, 102, 108, 105, 99, 116]⟩ then some restConflictP
 else none
def postBracket (s : RS) (o : Out) : Prop := match s.toks[s.at_]? with
 | some x => if x.kind = 1 then match restOf ⟨x.text.toArray⟩ with
   | some ps => o = .ret (.tup []) (rdL (addTd { s with at_ := s.at_ + 1 } ps))
   | none => o = .ret (.tup []) (rdL (addTd s [pvO 5, pvO 6]))
  else o = .ret (.tup []) (rdL (addTd s [pvO 5, pvO 6]))
 | none => o = .pan (pvR s)
set_option maxRecDepth 100000 in
set_option maxHeartbeats 8000000 in
theorem bracket_r (s : RS) (hs : Room s 20) (ht : s.toks.length ≤ 1048576) : ConL Tryz.prog 138 [.box 901 0, .mapd restKs restCs] (rdL s) (postBracket s) := by
 have hle := hs.le
 have hlt := hs.lt
 refine conL_of [901] [910, 911, 912, 913] Tryz.func138 rfl (by decide +kernel) (by simp [Tryz.ntmps138]) fun A hA => ?_
 rw [Tryz.ntmps138] at hA
 refine goC 300 ?_
 simp only [go_sem, hA]
 refine goCallL [901] [910, 911, 912, 913] 300 (next_r s) rfl rfl rfl rfl rfl (by simp only [go_sem, hA]) (fun res L' h => ?_) (fun pv h => ?_)
 rotate_left
 ·cases hp : s.toks[s.at_]? with
  | none => unfold postNext at h; rw [hp] at h; cases h; exact ⟨_, rfl, by unfold postBracket; rw [hp]⟩
  | some x => unfold postNext at h; rw [hp] at h; cases h
 cases hp : s.toks[s.at_]? with
 | none => unfold postNext at h; rw [hp] at h; cases h
 | some x =>
  have hl := (List.getElem?_eq_some_iff.1 hp).1
  unfold postNext at h
  rw [hp] at h
  cases h
  by_cases hk : x.kind = 1
  ·have g1 : decide (x.kind = 1) = true := decide_eq_true hk
   generalize ht' : (⟨x.text.toArray⟩ : ByteArray) = tx
   by_cases c0 : tx = ⟨#[102, 117, 110]⟩
   ·subst c0
    simp only [go_sem, hA, encT, g1, ht', decide_true]
    refine ⟨by unfold inI64; omega, ?_⟩
    refine goCallL [901] [910, 911, 912, 913] 300 (restFun_r { s with at_ := s.at_ + 1 } ⟨hle, hlt⟩) rfl rfl rfl rfl rfl (by simp only [go_sem, hA]) (fun res L' h => ?_) (fun pv h => by cases h)
    cases h
    simp only [go_sem]
    exact ⟨.tup [], rfl, rfl, by unfold postBracket; rw [hp]; simp only [hk, if_true, ht']; rfl⟩
   have d0 : decide (tx = ⟨#[102, 117, 110]⟩) = false := decide_eq_false c0
   by_cases c1 : tx = ⟨#[108, 101, 116]⟩
   ·subst c1
    simp only [go_sem, hA, encT, g1, ht', kne_1_0, decide_true]
    refine ⟨by unfold inI64; omega, ?_⟩
    refine goCallL [901] [910, 911, 912, 913] 300 (restLet_r { s with at_ := s.at_ + 1 } ⟨hle, hlt⟩) rfl rfl rfl rfl rfl (by simp only [go_sem, hA]) (fun res L' h => ?_) (fun pv h => by cases h)
    cases h
    simp only [go_sem]
    exact ⟨.tup [], rfl, rfl, by unfold postBracket; rw [hp]; simp only [hk, if_true, ht']; rfl⟩
   have d1 : decide (tx = ⟨#[108, 101, 116]⟩) = false := decide_eq_false c1
   by_cases c2 : tx = ⟨#[105, 102]⟩
   ·subst c2
    simp only [go_sem, hA, encT, g1, ht', kne_2_0, kne_2_1, decide_true]
    refine ⟨by unfold inI64; omega, ?_⟩
    refine goCallL [901] [910, 911, 912, 913] 300 (restIf_r { s with at_ := s.at_ + 1 } ⟨hle, hlt⟩) rfl rfl rfl rfl rfl (by simp only [go_sem, hA]) (fun res L' h => ?_) (fun pv h => by cases h)
    cases h
    simp only [go_sem]
    exact ⟨.tup [], rfl, rfl, by unfold postBracket; rw [hp]; simp only [hk, if_true, ht']; rfl⟩
   have d2 : decide (tx = ⟨#[105, 102]⟩) = false := decide_eq_false c2
   by_cases c3 : tx = ⟨#[99, 97, 115, 101]⟩
   ·subst c3
    simp only [go_sem, hA, encT, g1, ht', kne_3_0, kne_3_1, kne_3_2, decide_true]
    refine ⟨by unfold inI64; omega, ?_⟩
    refine goCallL [901] [910, 911, 912, 913] 300 (restCase_r { s with at_ := s.at_ + 1 } ⟨hle, hlt⟩) rfl rfl rfl rfl rfl (by simp only [go_sem, hA]) (fun res L' h => ?_) (fun pv h => by cases h)
    cases h
    simp only [go_sem]
    exact ⟨.tup [], rfl, rfl, by unfold postBracket; rw [hp]; simp only [hk, if_true, ht']; rfl⟩
   have d3 : decide (tx = ⟨#[99, 97, 115, 101]⟩) = false := decide_eq_false c3
   by_cases c4 : tx = ⟨#[99, 104, 97, 110, 99, 101]⟩
   ·subst c4
    simp only [go_sem, hA, encT, g1, ht', kne_4_0, kne_4_1, kne_4_2, kne_4_3, decide_true]
    refine ⟨by unfold inI64; omega, ?_⟩
    refine goCallL [901] [910, 911, 912, 913] 300 (restChance_r { s with at_ := s.at_ + 1 } ⟨hle, hlt⟩) rfl rfl rfl rfl rfl (by simp only [go_sem, hA]) (fun res L' h => ?_) (fun pv h => by cases h)
    cases h
    simp only [go_sem]
    exact ⟨.tup [], rfl, rfl, by unfold postBracket; rw [hp]; simp only [hk, if_true, ht']; rfl⟩
   have d4 : decide (tx = ⟨#[99, 104, 97, 110, 99, 101]⟩) = false := decide_eq_false c4
   by_cases c5 : tx = ⟨#[99, 111, 110, 102, 108, 105, 99, 116]⟩
   ·subst c5
    simp only [go_sem, hA, encT, g1, ht', kne_5_0, kne_5_1, kne_5_2, kne_5_3, kne_5_4, decide_true]
    refine ⟨by unfold inI64; omega, ?_⟩
    refine goCallL [901] [910, 911, 912, 913] 300 (restConflict_r { s with at_ := s.at_ + 1 } ⟨hle, hlt⟩) rfl rfl rfl rfl rfl (by simp only [go_sem, hA]) (fun res L' h => ?_) (fun pv h => by cases h)
    cases h
    simp only [go_sem]
    exact ⟨.tup [], rfl, rfl, by unfold postBracket; rw [hp]; simp only [hk, if_true, ht']; rfl⟩
   have d5 : decide (tx = ⟨#[99, 111, 110, 102, 108, 105, 99, 116]⟩) = false := decide_eq_false c5
   simp only [go_sem, hA, encT, g1, ht', d0, d1, d2, d3, d4, d5]
   refine goCall 300 (only_c 5) rfl (by simp only [go_sem]) (by simp only [go_sem, hA]) ?_
   simp only [go_sem]
   refine goCall 300 (only_c 6) rfl (by simp only [go_sem]) (by simp only [go_sem, hA]) ?_
   simp only [go_sem, hA]
   refine goCallL [901] [910, 911, 912, 913] 300 (add_r s [pvO 5, pvO 6] (by simp) (by simp) hle (by simp; omega)) rfl rfl rfl rfl rfl (by simp only [go_sem, hA]) (fun res L' h => ?_) (fun pv h => by cases h)
   cases h
   simp only [go_sem]
   exact ⟨.tup [], rfl, rfl, by unfold postBracket; rw [hp]; simp only [hk, if_true, ht', restOf, c0, c1, c2, c3, c4, c5, if_false]⟩
  ·have g1 : decide (x.kind = 1) = false := decide_eq_false hk
   simp only [go_sem, hA, encT, g1]
   refine goCall 300 (only_c 5) rfl (by simp only [go_sem]) (by simp only [go_sem, hA]) ?_
   simp only [go_sem]
   refine goCall 300 (only_c 6) rfl (by simp only [go_sem]) (by simp only [go_sem, hA]) ?_
   simp only [go_sem, hA]
   refine goCallL [901] [910, 911, 912, 913] 300 (add_r s [pvO 5, pvO 6] (by simp) (by simp) hle (by simp; omega)) rfl rfl rfl rfl rfl (by simp only [go_sem, hA]) (fun res L' h => ?_) (fun pv h => by cases h)
   cases h
   simp only [go_sem]
   exact ⟨.tup [], rfl, rfl, by unfold postBracket; rw [hp]; simp only [hk, if_false]⟩
end
section
open Go Go.RowKit
def tailOf (k : Int) (t : ByteArray) : PV × Bool :=
 if k = 4 then
  if t = ⟨#[43]⟩ ∨ t = ⟨#[45]⟩ ∨ t = ⟨#[42]⟩ ∨ t = ⟨#[61]⟩ ∨ t = ⟨#[60]⟩ then (⟨7, ⟨#[]⟩, 10, t, 0, 0, 2⟩, true)
  else if t = ⟨#[58, 58]⟩ then (pvJ 12 0 0 2, true) else (pvJ 7 0 0 2, false)
 else (pvJ 7 0 0 2, false)
def tailS (s : RS) (x : LTok) : RS := if (tailOf x.kind ⟨x.text.toArray⟩).2 = true then { s with at_ := s.at_ + 1 } else s
def postTail (s : RS) (o : Out) : Prop := match s.toks[s.at_]? with
 | some x => o = .ret (.tup []) (rdL (addTd (tailS s x) [pvO 5, pvS ⟨#[41]⟩, (tailOf x.kind ⟨x.text.toArray⟩).1]))
 | none => o = .pan (pvR s)
theorem one_1_0 : decide ((⟨#[45]⟩ : ByteArray) = ⟨#[43]⟩) = false := by decide
theorem one_2_0 : decide ((⟨#[42]⟩ : ByteArray) = ⟨#[43]⟩) = false := by decide
theorem one_2_1 : decide ((⟨#[42]⟩ : ByteArray) = ⟨#[45]⟩) = false := by decide
theorem one_3_0 : decide ((⟨#[61]⟩ : ByteArray) = ⟨#[43]⟩) = false := by decide
theorem one_3_1 : decide ((⟨#[61]⟩ : ByteArray) = ⟨#[45]⟩) = false := by decide
theorem one_3_2 : decide ((⟨#[61]⟩ : ByteArray) = ⟨#[42]⟩) = false := by decide
theorem one_4_0 : decide ((⟨#[60]⟩ : ByteArray) = ⟨#[43]⟩) = false := by decide
theorem one_4_1 : decide ((⟨#[60]⟩ : ByteArray) = ⟨#[45]⟩) = false := by decide
theorem one_4_2 : decide ((⟨#[60]⟩ : ByteArray) = ⟨#[42]⟩) = false := by decide
theorem one_4_3 : decide ((⟨#[60]⟩ : ByteArray) = ⟨#[61]⟩) = false := by decide
theorem one_5_0 : decide ((⟨#[58, 58]⟩ : ByteArray) = ⟨#[43]⟩) = false := by decide
theorem one_5_1 : decide ((⟨#[58, 58]⟩ : ByteArray) = ⟨#[45]⟩) = false := by decide
theorem one_5_2 : decide ((⟨#[58, 58]⟩ : ByteArray) = ⟨#[42]⟩) = false := by decide
theorem one_5_3 : decide ((⟨#[58, 58]⟩ : ByteArray) = ⟨#[61]⟩) = false := by decide
theorem one_5_4 : decide ((⟨#[58, 58]⟩ : ByteArray) = ⟨#[60]⟩) = false := by decide
set_option maxRecDepth 100000 in
set_option maxHeartbeats 8000000 in
theorem tail_r (s : RS) (hs : Room s 20) (ht : s.toks.length ≤ 1048576) : ConL Tryz.prog 81 [.box 901 0] (rdL s) (postTail s) := by
 have hle := hs.le
 have hlt := hs.lt
 refine conL_of [901] [910, 911, 912, 913] Tryz.func81 rfl (by decide +kernel) (by simp [Tryz.ntmps81]) fun A hA => ?_
 rw [Tryz.ntmps81] at hA
 refine goC 100300 ?_
 simp only [go_sem, hA]
 refine goCallL [901] [910, 911, 912, 913] 100300 (next_r s) rfl rfl rfl rfl rfl (by simp only [go_sem, hA]) (fun res L' h => ?_) (fun pv h => ?_)
 rotate_left
 ·cases hp : s.toks[s.at_]? with
  | none => unfold postNext at h; rw [hp] at h; cases h; exact ⟨_, rfl, by unfold postTail; rw [hp]⟩
  | some x => unfold postNext at h; rw [hp] at h; cases h
 cases hp : s.toks[s.at_]? with
 | none => unfold postNext at h; rw [hp] at h; cases h
 | some x =>
  have hl := (List.getElem?_eq_some_iff.1 hp).1
  unfold postNext at h
  rw [hp] at h
  cases h
  simp only [go_sem, hA, encT]
  refine goCall 100300 (join_c 7 0 0 2) rfl (by simp only [go_sem]) (by simp only [go_sem, hA]) ?_
  by_cases hk : x.kind = 4
  ·have g1 : decide (x.kind = 4) = true := decide_eq_true hk
   generalize ht' : (⟨x.text.toArray⟩ : ByteArray) = tx
   by_cases c0 : tx = ⟨#[43]⟩
   ·subst c0
    simp only [go_sem, hA, g1, decide_true]
    refine goCall 100300 (join_c 10 0 0 2) rfl (by simp only [go_sem]) (by simp only [go_sem, hA]) ?_
    simp only [go_sem, hA]
    refine ⟨by unfold inI64; omega, ?_⟩
    refine goDrawnL 100300 mixed ?_
    refine dCon 1 [1, 2, 4, 5] (only_c 5) [] rfl rfl rfl (by kernel_rfl) rfl (by kernel_rfl) (by simp only [go_sem, hA]) ?_
    simp only [go_sem, hA]
    refine ⟨by kernel_rfl, ?_⟩
    refine dCon 2 [2, 4, 5] (sign_c ⟨#[41]⟩) [] rfl rfl rfl (by kernel_rfl) rfl (by kernel_rfl) (by simp only [go_sem, hA]) ?_
    simp only [go_sem, hA]
    refine ⟨by kernel_rfl, ?_⟩
    refine dCall 5 [5] [901] [910, 911, 912, 913] (add_r ({ s with at_ := s.at_ + 1 }) [pvO 5, pvS ⟨#[41]⟩, ⟨7, ⟨#[]⟩, 10, ⟨#[43]⟩, 0, 0, 2⟩] (by simp) (by simp) hle (by simp; omega)) [] rfl rfl rfl (by kernel_rfl) rfl (by simp only [go_sem]) (by kernel_rfl) (by simp only [go_sem, hA]) ?_
    simp only [go_sem, hA]
    refine ⟨by kernel_rfl, fun x L' h => ?_⟩
    cases h
    refine dFin ?_
    simp only [go_sem, hA]
    refine ⟨by kernel_rfl, ?_⟩
    exact ⟨.tup [], rfl, rfl, by unfold postTail tailS tailOf; rw [hp]; simp only [hk, if_true, ht', true_or]⟩
   have d0 : decide (tx = ⟨#[43]⟩) = false := decide_eq_false c0
   by_cases c1 : tx = ⟨#[45]⟩
   ·subst c1
    simp only [go_sem, hA, g1, one_1_0, decide_true]
    refine goCall 100300 (join_c 10 0 0 2) rfl (by simp only [go_sem]) (by simp only [go_sem, hA]) ?_
    simp only [go_sem, hA]
    refine ⟨by unfold inI64; omega, ?_⟩
    refine goDrawnL 100300 mixed ?_
    refine dCon 1 [1, 2, 4, 5] (only_c 5) [] rfl rfl rfl (by kernel_rfl) rfl (by kernel_rfl) (by simp only [go_sem, hA]) ?_
    simp only [go_sem, hA]
    refine ⟨by kernel_rfl, ?_⟩
    refine dCon 2 [2, 4, 5] (sign_c ⟨#[41]⟩) [] rfl rfl rfl (by kernel_rfl) rfl (by kernel_rfl) (by simp only [go_sem, hA]) ?_
    simp only [go_sem, hA]
    refine ⟨by kernel_rfl, ?_⟩
    refine dCall 5 [5] [901] [910, 911, 912, 913] (add_r ({ s with at_ := s.at_ + 1 }) [pvO 5, pvS ⟨#[41]⟩, ⟨7, ⟨#[]⟩, 10, ⟨#[45]⟩, 0, 0, 2⟩] (by simp) (by simp) hle (by simp; omega)) [] rfl rfl rfl (by kernel_rfl) rfl (by simp only [go_sem]) (by kernel_rfl) (by simp only [go_sem, hA]) ?_
    simp only [go_sem, hA]
    refine ⟨by kernel_rfl, fun x L' h => ?_⟩
    cases h
    refine dFin ?_
    simp only [go_sem, hA]
    refine ⟨by kernel_rfl, ?_⟩
    exact ⟨.tup [], rfl, rfl, by unfold postTail tailS tailOf; rw [hp]; simp only [hk, if_true, ht', true_or, or_true]⟩
   have d1 : decide (tx = ⟨#[45]⟩) = false := decide_eq_false c1
   by_cases c2 : tx = ⟨#[42]⟩
   ·subst c2
    simp only [go_sem, hA, g1, one_2_0, one_2_1, decide_true]
    refine goCall 100300 (join_c 10 0 0 2) rfl (by simp only [go_sem]) (by simp only [go_sem, hA]) ?_
    simp only [go_sem, hA]
    refine ⟨by unfold inI64; omega, ?_⟩
    refine goDrawnL 100300 mixed ?_
    refine dCon 1 [1, 2, 4, 5] (only_c 5) [] rfl rfl rfl (by kernel_rfl) rfl (by kernel_rfl) (by simp only [go_sem, hA]) ?_
    simp only [go_sem, hA]
    refine ⟨by kernel_rfl, ?_⟩
    refine dCon 2 [2, 4, 5] (sign_c ⟨#[41]⟩) [] rfl rfl rfl (by kernel_rfl) rfl (by kernel_rfl) (by simp only [go_sem, hA]) ?_
    simp only [go_sem, hA]
    refine ⟨by kernel_rfl, ?_⟩
    refine dCall 5 [5] [901] [910, 911, 912, 913] (add_r ({ s with at_ := s.at_ + 1 }) [pvO 5, pvS ⟨#[41]⟩, ⟨7, ⟨#[]⟩, 10, ⟨#[42]⟩, 0, 0, 2⟩] (by simp) (by simp) hle (by simp; omega)) [] rfl rfl rfl (by kernel_rfl) rfl (by simp only [go_sem]) (by kernel_rfl) (by simp only [go_sem, hA]) ?_
    simp only [go_sem, hA]
    refine ⟨by kernel_rfl, fun x L' h => ?_⟩
    cases h
    refine dFin ?_
    simp only [go_sem, hA]
    refine ⟨by kernel_rfl, ?_⟩
    exact ⟨.tup [], rfl, rfl, by unfold postTail tailS tailOf; rw [hp]; simp only [hk, if_true, ht', true_or, or_true]⟩
   have d2 : decide (tx = ⟨#[42]⟩) = false := decide_eq_false c2
   by_cases c3 : tx = ⟨#[61]⟩
   ·subst c3
    simp only [go_sem, hA, g1, one_3_0, one_3_1, one_3_2, decide_true]
    refine goCall 100300 (join_c 10 0 0 2) rfl (by simp only [go_sem]) (by simp only [go_sem, hA]) ?_
    simp only [go_sem, hA]
    refine ⟨by unfold inI64; omega, ?_⟩
    refine goDrawnL 100300 mixed ?_
    refine dCon 1 [1, 2, 4, 5] (only_c 5) [] rfl rfl rfl (by kernel_rfl) rfl (by kernel_rfl) (by simp only [go_sem, hA]) ?_
    simp only [go_sem, hA]
    refine ⟨by kernel_rfl, ?_⟩
    refine dCon 2 [2, 4, 5] (sign_c ⟨#[41]⟩) [] rfl rfl rfl (by kernel_rfl) rfl (by kernel_rfl) (by simp only [go_sem, hA]) ?_
    simp only [go_sem, hA]
    refine ⟨by kernel_rfl, ?_⟩
    refine dCall 5 [5] [901] [910, 911, 912, 913] (add_r ({ s with at_ := s.at_ + 1 }) [pvO 5, pvS ⟨#[41]⟩, ⟨7, ⟨#[]⟩, 10, ⟨#[61]⟩, 0, 0, 2⟩] (by simp) (by simp) hle (by simp; omega)) [] rfl rfl rfl (by kernel_rfl) rfl (by simp only [go_sem]) (by kernel_rfl) (by simp only [go_sem, hA]) ?_
    simp only [go_sem, hA]
    refine ⟨by kernel_rfl, fun x L' h => ?_⟩
    cases h
    refine dFin ?_
    simp only [go_sem, hA]
    refine ⟨by kernel_rfl, ?_⟩
    exact ⟨.tup [], rfl, rfl, by unfold postTail tailS tailOf; rw [hp]; simp only [hk, if_true, ht', true_or, or_true]⟩
   have d3 : decide (tx = ⟨#[61]⟩) = false := decide_eq_false c3
   by_cases c4 : tx = ⟨#[60]⟩
   ·subst c4
    simp only [go_sem, hA, g1, one_4_0, one_4_1, one_4_2, one_4_3, decide_true]
    refine goCall 100300 (join_c 10 0 0 2) rfl (by simp only [go_sem]) (by simp only [go_sem, hA]) ?_
    simp only [go_sem, hA]
    refine ⟨by unfold inI64; omega, ?_⟩
    refine goDrawnL 100300 mixed ?_
    refine dCon 1 [1, 2, 4, 5] (only_c 5) [] rfl rfl rfl (by kernel_rfl) rfl (by kernel_rfl) (by simp only [go_sem, hA]) ?_
    simp only [go_sem, hA]
    refine ⟨by kernel_rfl, ?_⟩
    refine dCon 2 [2, 4, 5] (sign_c ⟨#[41]⟩) [] rfl rfl rfl (by kernel_rfl) rfl (by kernel_rfl) (by simp only [go_sem, hA]) ?_
    simp only [go_sem, hA]
    refine ⟨by kernel_rfl, ?_⟩
    refine dCall 5 [5] [901] [910, 911, 912, 913] (add_r ({ s with at_ := s.at_ + 1 }) [pvO 5, pvS ⟨#[41]⟩, ⟨7, ⟨#[]⟩, 10, ⟨#[60]⟩, 0, 0, 2⟩] (by simp) (by simp) hle (by simp; omega)) [] rfl rfl rfl (by kernel_rfl) rfl (by simp only [go_sem]) (by kernel_rfl) (by simp only [go_sem, hA]) ?_
    simp only [go_sem, hA]
    refine ⟨by kernel_rfl, fun x L' h => ?_⟩
    cases h
    refine dFin ?_
    simp only [go_sem, hA]
    refine ⟨by kernel_rfl, ?_⟩
    exact ⟨.tup [], rfl, rfl, by unfold postTail tailS tailOf; rw [hp]; simp only [hk, if_true, ht', or_true]⟩
   have d4 : decide (tx = ⟨#[60]⟩) = false := decide_eq_false c4
   by_cases c5 : tx = ⟨#[58, 58]⟩
   ·subst c5
    simp only [go_sem, hA, g1, one_5_0, one_5_1, one_5_2, one_5_3, one_5_4, decide_true]
    refine goCall 100300 (join_c 12 0 0 2) rfl (by simp only [go_sem]) (by simp only [go_sem, hA]) ?_
    simp only [go_sem, hA]
    refine ⟨by unfold inI64; omega, ?_⟩
    refine goDrawnL 100300 mixed ?_
    refine dCon 1 [1, 2, 4, 5] (only_c 5) [] rfl rfl rfl (by kernel_rfl) rfl (by kernel_rfl) (by simp only [go_sem, hA]) ?_
    simp only [go_sem, hA]
    refine ⟨by kernel_rfl, ?_⟩
    refine dCon 2 [2, 4, 5] (sign_c ⟨#[41]⟩) [] rfl rfl rfl (by kernel_rfl) rfl (by kernel_rfl) (by simp only [go_sem, hA]) ?_
    simp only [go_sem, hA]
    refine ⟨by kernel_rfl, ?_⟩
    refine dCall 5 [5] [901] [910, 911, 912, 913] (add_r ({ s with at_ := s.at_ + 1 }) [pvO 5, pvS ⟨#[41]⟩, pvJ 12 0 0 2] (by simp) (by simp) hle (by simp; omega)) [] rfl rfl rfl (by kernel_rfl) rfl (by simp only [go_sem]) (by kernel_rfl) (by simp only [go_sem, hA]) ?_
    simp only [go_sem, hA]
    refine ⟨by kernel_rfl, fun x L' h => ?_⟩
    cases h
    refine dFin ?_
    simp only [go_sem, hA]
    refine ⟨by kernel_rfl, ?_⟩
    exact ⟨.tup [], rfl, rfl, by unfold postTail tailS tailOf; rw [hp]; simp only [hk, if_true, ht', c0, c1, c2, c3, c4, or_self, if_false]⟩
   have d5 : decide (tx = ⟨#[58, 58]⟩) = false := decide_eq_false c5
   simp only [go_sem, hA, g1, d0, d1, d2, d3, d4, d5]
   refine goDrawnL 100300 mixed ?_
   refine dCon 1 [1, 2, 4, 5] (only_c 5) [] rfl rfl rfl (by kernel_rfl) rfl (by kernel_rfl) (by simp only [go_sem, hA]) ?_
   simp only [go_sem, hA]
   refine ⟨by kernel_rfl, ?_⟩
   refine dCon 2 [2, 4, 5] (sign_c ⟨#[41]⟩) [] rfl rfl rfl (by kernel_rfl) rfl (by kernel_rfl) (by simp only [go_sem, hA]) ?_
   simp only [go_sem, hA]
   refine ⟨by kernel_rfl, ?_⟩
   refine dCall 5 [5] [901] [910, 911, 912, 913] (add_r (s) [pvO 5, pvS ⟨#[41]⟩, pvJ 7 0 0 2] (by simp) (by simp) hle (by simp; omega)) [] rfl rfl rfl (by kernel_rfl) rfl (by simp only [go_sem]) (by kernel_rfl) (by simp only [go_sem, hA]) ?_
   simp only [go_sem, hA]
   refine ⟨by kernel_rfl, fun x L' h => ?_⟩
   cases h
   refine dFin ?_
   simp only [go_sem, hA]
   refine ⟨by kernel_rfl, ?_⟩
   exact ⟨.tup [], rfl, rfl, by unfold postTail tailS tailOf; rw [hp]; simp only [hk, if_true, ht', c0, c1, c2, c3, c4, c5, or_self, if_false]; rfl⟩
  ·have g1 : decide (x.kind = 4) = false := decide_eq_false hk
   simp only [go_sem, hA, g1]
   refine goDrawnL 100300 mixed ?_
   refine dCon 1 [1, 2, 4, 5] (only_c 5) [] rfl rfl rfl (by kernel_rfl) rfl (by kernel_rfl) (by simp only [go_sem, hA]) ?_
   simp only [go_sem, hA]
   refine ⟨by kernel_rfl, ?_⟩
   refine dCon 2 [2, 4, 5] (sign_c ⟨#[41]⟩) [] rfl rfl rfl (by kernel_rfl) rfl (by kernel_rfl) (by simp only [go_sem, hA]) ?_
   simp only [go_sem, hA]
   refine ⟨by kernel_rfl, ?_⟩
   refine dCall 5 [5] [901] [910, 911, 912, 913] (add_r (s) [pvO 5, pvS ⟨#[41]⟩, pvJ 7 0 0 2] (by simp) (by simp) hle (by simp; omega)) [] rfl rfl rfl (by kernel_rfl) rfl (by simp only [go_sem]) (by kernel_rfl) (by simp only [go_sem, hA]) ?_
   simp only [go_sem, hA]
   refine ⟨by kernel_rfl, fun x L' h => ?_⟩
   cases h
   refine dFin ?_
   simp only [go_sem, hA]
   refine ⟨by kernel_rfl, ?_⟩
   exact ⟨.tup [], rfl, rfl, by unfold postTail tailS tailOf; rw [hp]; simp only [hk, if_false]; rfl⟩
end
end Go.Proofs.YtnnolijagpakiaaGreatDoor
