/- Texts of this proof, part 21: what the proof uses of them. -/
import Derived.Test.YtnjedgpidalioaaGreatDoorQat
import Derived.Test.YtnjedgpidalioaaGreatDoorQal
import Derived.Test.YtnjedgpidalioaaGreatDoorQak
import Derived.Test.YtnjedgpidalioaaGreatDoorQan
import Derived.Test.YtnjedgpidalioaaGreatDoorQas
namespace Go.Proofs.YtnjedgpidalioaaGreatDoor
section
open Go Go.RowKit
mutual
theorem oneE_nodes (side : Nat) : ∀ (t : Ex) (j : Int), nodesE (oneE side t j).1 ≤ nodesE t
 | .mk k n m i d s, j => by
  have h1 := fun j => oneL_nodes side s j
  have h2 : nodesE (s.getD side zeroEx) ≤ nodesL s + 1 := by
   rw [List.getD_eq_getElem?_getD]
   cases h : s[side]? with
   | none => simp [zeroEx, nodesE, nodesL]
   | some x =>
    have hx := List.mem_of_getElem? h
    have := nodesL_mem hx
    simp only [Option.getD_some]; omega
  rw [oneE, nodesE]
  split
  ·split
   ·simp only; omega
   ·have := h1 (j - 1)
    simp only [nodesE]; omega
  ·have := h1 j
   simp only [nodesE]; omega
theorem oneL_nodes (side : Nat) : ∀ (l : List Ex) (j : Int), nodesL (oneL side l j).1 ≤ nodesL l
 | [], j => by rw [oneL]; exact Nat.le_refl _
 | e :: es, j => by
  rw [oneL]
  split
  ·exact Nat.le_refl _
  ·have h1 := oneE_nodes side e j
   have h2 := oneL_nodes side es (oneE side e j).2
   simp only [nodesL]; omega
end
theorem tree_few {l : List Fl} (h : treeX l = 0) : l.length ≤ 200 := by
 unfold treeX at h
 split at h
 ·cases h
 ·omega
theorem sett_tree {m : Mg} (h : settX m = 0) : treeX m.fs = 0 := by
 unfold settX at h
 split at h
 ·exact absurd h (by assumption)
 split at h
 ·exact absurd h (by assumption)
 ·rename_i h2; exact Classical.not_not.1 h2
theorem atC_mem (l : List Tc) (i : Nat) (h : i < l.length) : atC l i ∈ l := by rw [atC_get l i h]; exact List.getElem_mem h
theorem atM_mem (l : List Mo) (i : Nat) (h : i < l.length) : atM l i ∈ l := by rw [atM_get l i h]; exact List.getElem_mem h
theorem insFl_mem {l : List Fl} {i : Nat} {x y : Fl} (h : y ∈ insFl l i x) : y ∈ l ∨ y = x := by
 unfold insFl at h
 rcases List.mem_append.1 h with h | h
 ·exact .inl (List.mem_of_mem_take h)
 ·rcases List.mem_cons.1 h with h | h
  ·exact .inr h
  ·exact .inl (List.mem_of_mem_drop h)
theorem insFl_len {l : List Fl} {i : Nat} {x : Fl} : (insFl l i x).length = l.length + 1 := by
 unfold insFl
 rw [List.length_append, List.length_cons, List.length_take, List.length_drop]; omega
theorem tcSide_or (c : Tc) (k : Nat) : tcSide c k = c.left ∨ tcSide c k = c.base ∨ tcSide c k = c.right := by
 unfold tcSide pick3
 split
 ·exact .inl rfl
 ·split
  ·exact .inr (.inl rfl)
  ·exact .inr (.inr rfl)
theorem isText_find {m : Mg} {path : ByteArray} (h : m.ts.any (isText path) = true) : m.ts.findIdx (isText path) < m.ts.length ∧ (atC m.ts (m.ts.findIdx (isText path))).path = path := by
 have h1 := (ixF_of h).2
 refine ⟨h1, ?_⟩
 rw [atC_get _ _ h1]
 have := List.findIdx_getElem (xs := m.ts) (p := isText path) (w := h1)
 simpa [isText] using this
theorem isMo_find {m : Mg} {label : ByteArray} (h : m.ms.any (isMo label) = true) : m.ms.findIdx (isMo label) < m.ms.length ∧ (atM m.ms (m.ms.findIdx (isMo label))).label = label := by
 have h1 := (ixF_of h).2
 refine ⟨h1, ?_⟩
 rw [atM_get _ _ h1]
 have := List.findIdx_getElem (xs := m.ms) (p := isMo label) (w := h1)
 simpa [isMo] using this
theorem file_good {m : Mg} (hg : m.Good) (h0 : settX m = 0) {path : ByteArray} (h : m.ts.any (isText path) = true) (k : Nat) : (fileX m path (m.ts.findIdx (isText path)) k).Good := by
 obtain ⟨h1, h2⟩ := isText_find h
 have h3 := tree_few (sett_tree h0)
 have h4 := hg.fine.tp _ (atC_mem _ _ h1)
 have hf := hg.fine
 have htm : ∀ x ∈ m.ts.take (m.ts.findIdx (isText path)) ++ m.ts.drop (m.ts.findIdx (isText path) + 1), x ∈ m.ts := fun x hx => by
  rcases List.mem_append.1 hx with h | h
  ·exact List.mem_of_mem_take h
  ·exact List.mem_of_mem_drop h
 refine ⟨⟨hf.ml, ?_, hf.bd, ?_, fun x hx => hf.tp x (htm x hx)⟩, ?_, hg.dl⟩
 ·unfold fileX
  dsimp only
  split
  ·rw [insFl_len]; omega
  ·exact hf.fl
 ·intro x hx
  unfold fileX at hx
  dsimp only at hx
  split at hx
  ·rcases insFl_mem hx with h | rfl
   ·exact hf.fp x h
   ·refine ⟨by rw [← h2]; exact h4.1, ?_⟩
    rcases tcSide_or (atC m.ts (m.ts.findIdx (isText path))) k with h | h | h <;> rw [h]
    ·exact h4.2.2.1
    ·exact h4.2.1
    ·exact h4.2.2.2
  ·exact hf.fp x hx
 ·show (m.ts.take _ ++ m.ts.drop _).length ≤ _
  have := hg.tl
  rw [List.length_append, List.length_take, List.length_drop]; omega
theorem nmX_body (d : Dc) (nm : ByteArray) : nodesE (nmX d nm).1.body ≤ nodesE d.body := by
 unfold nmX
 split
 ·exact Nat.le_refl _
 ·exact nodesE_pos d.body
theorem stdX_nodes (d : Dc) (s : Sq) (k : Nat) : nodesE (stdX d s k).1.body ≤ nodesE d.body := by
 unfold stdX
 split
 ·exact nmX_body _ _
 split
 ·split
  ·show nodesE (setEX d.body s.pos k).1 ≤ _
   unfold setEX
   split
   ·split
    ·exact nodesE_pos d.body
    ·exact oneE_nodes _ _ _
   ·exact nodesE_pos d.body
  ·exact nodesE_pos d.body
 split
 ·exact nodesE_pos d.body
 split
 ·exact Nat.le_refl _
 ·exact nmX_body _ _
theorem mst_decls (x : Mo) (s : Sq) (k : Nat) : (mstX x s k).1.decls.length ≤ x.decls.length ∧ ∀ N, (∀ d ∈ x.decls, nodesE d.body ≤ N) → ∀ d ∈ (mstX x s k).1.decls, nodesE d.body ≤ N := by
 have z : zeroMo.decls.length ≤ x.decls.length ∧ ∀ N, (∀ d ∈ x.decls, nodesE d.body ≤ N) → ∀ d ∈ zeroMo.decls, nodesE d.body ≤ N := ⟨Nat.zero_le _, fun N _ d hd => by cases hd⟩
 unfold mstX
 split
 ·exact z
 split
 ·exact z
 split
 ·exact z
 split
 ·exact z
 refine ⟨keptD_le s k x.decls _, fun N hN d hd => ?_⟩
 obtain ⟨e, he, hd⟩ := List.mem_flatMap.1 (show d ∈ (x.decls.take _).flatMap (keepD s k) from hd)
 have heN := hN e (List.mem_of_mem_take he)
 unfold keepD at hd
 split at hd
 ·split at hd
  ·rw [List.mem_singleton.1 hd]; exact Nat.le_trans (stdX_nodes e s k) heN
  ·cases hd
 ·rw [List.mem_singleton.1 hd]; exact heN
theorem put_good {m : Mg} (hg : m.Good) (a : Nat) (ha : a < m.ms.length) (s : Sq) (k : Nat) : (putMo m a (mstX (atM m.ms a) s k).1).Good := by
 have hf := hg.fine
 have hm := mst_decls (atM m.ms a) s k
 have key : ∀ x ∈ m.ms.set a (mstX (atM m.ms a) s k).1, x ∈ m.ms ∨ x = (mstX (atM m.ms a) s k).1 := fun x hx => List.mem_or_eq_of_mem_set hx
 refine ⟨⟨by simpa [putMo] using hf.ml, hf.fl, fun x hx => ?_, hf.fp, hf.tp⟩, hg.tl, fun x hx => ?_⟩
 ·rcases key x hx with h | rfl
  ·exact hf.bd x h
  ·exact hm.2 _ (hf.bd _ (atM_mem _ _ ha))
 ·rcases key x hx with h | rfl
  ·exact hg.dl x h
  ·exact Nat.le_trans hm.1 (hg.dl _ (atM_mem _ _ ha))
theorem zeroG_good : zeroG.Good := ⟨⟨Nat.zero_le _, Nat.zero_le _, fun x hx => (by cases hx), fun x hx => (by cases hx), fun x hx => (by cases hx)⟩, Nat.zero_le _, fun x hx => (by cases hx)⟩
theorem step_good {m : Mg} (hg : m.Good) (h0 : settX m = 0) {s : Sq} (hs : s ∈ listQ m) (k : Nat) : (stepX m s k).1.Good := by
 unfold stepX
 split
 ·exact file_good hg h0 (text_any hs (by assumption)) k
 split
 ·exact put_good hg _ (isMo_find (mod_any hs (by assumption))).1 s k
 ·exact zeroG_good
theorem atQ_mem {l : List Sq} {i : Nat} (h : i < l.length) : atQ l i ∈ l := by rw [atQ_get l i h]; exact List.getElem_mem h
theorem choose_good {m : Mg} (hg : m.Good) (i side : Int) : (chooseX m i side).1.Good := by
 unfold chooseX
 split
 ·exact zeroG_good
 split
 ·exact zeroG_good
 split
 ·exact zeroG_good
 split
 ·exact zeroG_good
 ·rename_i h0 h1 _ _
  exact step_good hg (Classical.not_not.1 h0) (atQ_mem (by omega)) _
end
section
open Go Go.RowKit
theorem encMs_set (l : List Mo) (a : Nat) (x : Mo) : (encMs l).set a (encM x) = encMs (l.set a x) := by simp [encMs, List.map_set]
set_option maxRecDepth 100000 in
set_option maxHeartbeats 32000000 in
theorem choose_c (m : Mg) (hg : m.Good) (i side : Int) : Con Tryz.prog 11 [avG m, .d (.raw (.int .i64 i)), .d (.raw (.int .i64 side))] (.tup [avG (chooseX m i side).1, .d (.raw (.int .i64 (chooseX m i side).2))]) := by
 refine con_ofY Tryz.func11 rfl (by decide +kernel) rfl rfl (by simp [Tryz.ntmps11]) fun A hA hAX => ?_
 rw [Tryz.ntmps11] at hA
 have hr0 : chooseX m i side = if ¬ settX m = 0 then (zeroG, settX m)
  else if i < 0 ∨ ((listQ m).length : Int) ≤ i ∨ side < 0 ∨ 2 < side then (zeroG, 2)
  else if ¬ (stepX m (atQ (listQ m) i.toNat) side.toNat).2 = 0 then (zeroG, (stepX m (atQ (listQ m) i.toNat) side.toNat).2)
  else if ¬ settX (stepX m (atQ (listQ m) i.toNat) side.toNat).1 = 0 then (zeroG, settX (stepX m (atQ (listQ m) i.toNat) side.toNat).1)
  else ((stepX m (atQ (listQ m) i.toNat) side.toNat).1, 0) := rfl
 refine goC 400 ?_
 simp only [go_sem, hA, avG]
 refine goCall 400 (settle_c m hg.fine) rfl (by simp only [go_sem, avG]) (by simp only [go_sem, hA]) ?_
 by_cases h0 : settX m = 0
 case neg =>
  have g1 : (decide ¬ settX m = 0) = true := decide_eq_true h0
  rw [if_pos h0] at hr0
  simp only [go_sem, hA, g1, hr0, Tryz.results11]
  rfl
 have g1 : (decide ¬ settX m = 0) = false := by simp [h0]
 rw [if_neg (by simp [h0])] at hr0
 simp only [go_sem, hA, g1]
 have hll := slist_c m hg.fine.ml hg.tl (fun x hx => ⟨hg.dl x hx, hg.fine.bd x hx⟩) (fun x _ => confM_fit x) (modsP_few m hg.fine.ml)
 rw [listG_enc] at hll
 refine goCall 400 hll rfl (by simp only [go_sem, avG]) (by simp only [go_sem, hA]) ?_
 by_cases h1 : i < 0 ∨ ((listQ m).length : Int) ≤ i ∨ side < 0 ∨ 2 < side
 ·rw [if_pos h1] at hr0
  by_cases a1 : i < 0
  ·have d1 := decide_eq_true a1
   simp only [go_sem, hA, d1, undef, hr0, Tryz.results11]
   rfl
  have d1 := decide_eq_false a1
  by_cases a2 : ((listQ m).length : Int) ≤ i
  ·have d2 := decide_eq_true a2
   simp only [go_sem, hA, d1, d2, undef, encQs_length, hr0, Tryz.results11]
   rfl
  have d2 := decide_eq_false a2
  by_cases a3 : side < 0
  ·have d3 := decide_eq_true a3
   simp only [go_sem, hA, d1, d2, d3, undef, encQs_length, hr0, Tryz.results11]
   rfl
  have d3 := decide_eq_false a3
  have d4 : decide (2 < side) = true := decide_eq_true (by omega)
  simp only [go_sem, hA, d1, d2, d3, d4, encQs_length, hr0, Tryz.results11]
  rfl
 rw [if_neg h1] at hr0
 obtain ⟨ni, rfl⟩ : ∃ n : Nat, i = n := ⟨i.toNat, by omega⟩
 obtain ⟨k, rfl⟩ : ∃ n : Nat, side = n := ⟨side.toNat, by omega⟩
 have hk : k < 3 := by omega
 have hlt : ni < (listQ m).length := by omega
 have d1 : decide ((ni : Int) < 0) = false := decide_eq_false (by omega)
 have d2 : decide (((listQ m).length : Int) ≤ (ni : Int)) = false := decide_eq_false (by omega)
 have d3 : decide ((k : Int) < 0) = false := decide_eq_false (by omega)
 have d4 : decide (2 < (k : Int)) = false := decide_eq_false (by omega)
 have hat := atQ_get (listQ m) ni hlt
 have hs : (listQ m)[ni] ∈ listQ m := List.getElem_mem hlt
 have henc := encQs_at (listQ m) ni hlt
 simp only [Int.toNat_natCast, hat] at hr0
 generalize (listQ m)[ni] = s at hr0 hs henc
 have hgood := step_good hg h0 hs k
 simp only [go_sem, hA, d1, d2, d3, d4, encQs_length, Int.toNat_natCast, henc, encQ, spR]
 refine ⟨⟨by omega, by omega⟩, ?_⟩
 by_cases h5 : s.kind = 5
 ·obtain ⟨hx1, hx2⟩ := ixF_of (text_any hs h5)
  have hst : stepX m s k = (fileX m s.label (m.ts.findIdx (isText s.label)) k, 0) := if_pos h5
  rw [hst, if_neg (by simp)] at hr0
  rw [hst] at hgood
  have d5 : decide (s.kind = 5) = true := decide_eq_true h5
  have hfew := tree_few (sett_tree h0)
  simp only [go_sem, hA, d5]
  refine goCall 400 (chooseFile_c m s.label k _ hk hx2 hx1 hg.tl hg.fine.fl) rfl (by simp only [go_sem, avG]) (by simp only [go_sem, hA]) ?_
  simp only at hr0 hgood
  generalize fileX m s.label (m.ts.findIdx (isText s.label)) k = m' at hr0 hgood
  simp only [go_sem, hA, avG]
  refine goCall 400 (settle_c m' hgood.fine) rfl (by simp only [go_sem, avG]) (by simp only [go_sem, hA]) ?_
  by_cases h6 : settX m' = 0
  ·have g6 : (decide ¬ settX m' = 0) = false := by simp [h6]
   rw [if_neg (by simp [h6])] at hr0
   simp only [go_sem, hA, g6, hr0, Tryz.results11]
  ·have g6 : (decide ¬ settX m' = 0) = true := decide_eq_true h6
   rw [if_pos h6] at hr0
   simp only [go_sem, hA, g6, hr0, Tryz.results11]
   rfl
 ·obtain ⟨hx1, hx2⟩ := ixF_of (mod_any hs h5)
  have d5 : decide (s.kind = 5) = false := decide_eq_false h5
  have hst : stepX m s k = if (mstX (atM m.ms (m.ms.findIdx (isMo s.label))) s k).2 = 0 then (putMo m (m.ms.findIdx (isMo s.label)) (mstX (atM m.ms (m.ms.findIdx (isMo s.label))) s k).1, 0) else (zeroG, (mstX (atM m.ms (m.ms.findIdx (isMo s.label))) s k).2) := if_neg h5
  have hix := ixMod_c m.ms 33 [.at_ (encQ s)] (isMo s.label) rfl rfl hg.fine.ml fun x _ => chMod_c x s
  rw [hx1] at hix
  generalize m.ms.findIdx (isMo s.label) = a at hix hx2 hst
  have hma := atM_get m.ms a hx2
  have hmb := mods_ok h0 _ (List.getElem_mem hx2)
  rw [hma] at hst
  simp only [go_sem, hA, d5]
  refine goFrz 7004 ?_
  simp only [go_sem]
  refine goCall 400 hix rfl (by simp only [go_sem, encQ, spR]) (by simp only [go_sem, hA]) ?_
  simp only [go_sem, hA, encMs_length, Int.toNat_natCast, encMs_at m.ms a hx2, encM, mixed]
  refine ⟨⟨by omega, by omega⟩, ?_⟩
  refine goCallD 400 (mstSettle_c m.ms[a] s k hk (hg.dl _ (List.getElem_mem hx2)) (hg.fine.bd _ (List.getElem_mem hx2)) (Nat.le_trans (confQ_few hmb) (by decide))) rfl (by simp only [go_sem, avM, avQ]) (by simp only [go_sem, hA]) ?_
  generalize mstX m.ms[a] s k = r at hst
  obtain ⟨x, er⟩ := r
  simp only at hst
  simp only [go_sem, hA, avM]
  refine ⟨by show chk _ _ _ = true; kernel_rfl, ?_⟩
  by_cases he : er = 0
  case neg =>
   have de : decide (¬ er = 0) = true := decide_eq_true he
   rw [if_neg he] at hst
   rw [hst, if_pos he] at hr0
   simp only [go_sem, hA, de, hr0, Tryz.results11]
   rfl
  subst he
  rw [if_pos rfl] at hst
  rw [hst] at hr0 hgood
  rw [if_neg (by simp)] at hr0
  simp only at hr0 hgood
  simp only [go_sem, hA]
  refine goCallK 38 (cloneM_k m.ms hg.fine.ml) rfl rfl (by simp only [go_sem]) (by simp only [go_sem]) (by simp only [go_sem, hA]) (by simp only [go_sem]) ?_
  have hrow : (encMs m.ms).getD a [] = encM m.ms[a] := encMs_at m.ms a hx2
  simp only [go_sem, hA, encMs_length, Int.toNat_natCast, Nat.zero_add, hrow, encM]
  refine ⟨⟨by omega, by omega⟩, hx2, ?_⟩
  refine satC_frzTok hAX.2 14002 0 0 (rows := encMs (m.ms.set a x)) (by simp only [go_sem] <;> rfl) rfl (by simp only [go_sem, ← encMs_set, encM] <;> rfl) (by rw [encMs_length, List.length_set]) ?_
  generalize hm' : putMo m a x = m' at hr0 hgood
  have e1 : encMs (m.ms.set a x) = encMs m'.ms := by rw [← hm']; rfl
  have e2 : encFs m.fs = encFs m'.fs := by rw [← hm']; rfl
  have e3 : encCs m.ts = encCs m'.ts := by rw [← hm']; rfl
  rw [e1]
  refine goC 400 ?_
  simp only [go_sem, hA, e2, e3]
  refine goCall 400 (settle_c m' hgood.fine) rfl (by simp only [go_sem, avG]) (by simp only [go_sem, hA]) ?_
  by_cases h6 : settX m' = 0
  ·have g6 : (decide ¬ settX m' = 0) = false := by simp [h6]
   rw [if_neg (by simp [h6])] at hr0
   simp only [go_sem, hA, g6, hr0, Tryz.results11]
  ·have g6 : (decide ¬ settX m' = 0) = true := decide_eq_true h6
   rw [if_pos h6] at hr0
   simp only [go_sem, hA, g6, hr0, Tryz.results11]
   rfl
end
section
open Go Go.RowKit
def greatU (l : List ByteArray) : Bool := decide (10 < l.length) || l.any fun s => decide (120 < s.size)
def greatDc (d : Dc) : Bool := decide (5 < d.names.length) || greatE d.body || d.names.any fun s => decide (100 < s.size)
def greatDs (l : List Dc) : Bool := decide (8 < l.length) || l.any greatDc
abbrev guSt (l : List ByteArray) (q : Nat) : St := ⟨[(0, .d (.sl (encS l))), (3, .d (.raw (.int .i64 q)))], [], []⟩
set_option maxRecDepth 100000 in
set_option maxHeartbeats 8000000 in
theorem rGreatUses_c (l : List ByteArray) : Con Tryz.prog 39 [.d (.sl (encS l))] (.d (.raw (.bool (greatU l)))) := by
 refine con_of Tryz.func39 rfl (by decide +kernel) rfl rfl (by simp [Tryz.ntmps39]) fun A hA => ?_
 rw [Tryz.ntmps39] at hA
 refine goC 400 ?_
 by_cases h1 : 10 < l.length
 ·have g1 : decide ((10 : Int) < (l.length : Int)) = true := decide_eq_true (by omega)
  have he : greatU l = true := by unfold greatU; rw [decide_eq_true h1]; rfl
  simp only [go_sem, hA, encS_length, g1, he, Tryz.results39]
 have g1 : decide ((10 : Int) < (l.length : Int)) = false := decide_eq_false (by omega)
 have he : greatU l = l.any fun s => decide (120 < s.size) := by unfold greatU; rw [decide_eq_false h1]; rfl
 simp only [go_sem, hA, encS_length, g1]
 refine satC_loop [0, 3] [] [] (fun y σ => ∃ q : Nat, q ≤ l.length ∧ y = l.length - q ∧ ((l.take q).any fun s => decide (120 < s.size)) = false ∧ σ = guSt l q) l.length ⟨0, by omega, by omega, rfl, by simp only [go_sem, guSt]⟩ ?_
 rintro y σ ⟨q, hq, rfl, hf, rfl⟩
 refine goC 400 ?_
 by_cases hlt : q < l.length
 ·have k1 : decide ((q : Int) < (l.length : Int)) = true := decide_eq_true (by omega)
  by_cases h2 : 120 < l[q].size
  ·have k2 : decide ((120 : Int) < (l[q].size : Int)) = true := decide_eq_true (by omega)
   rw [any_hit hlt (decide_eq_true h2)] at he
   simp only [go_sem, hA, guSt, encS_length, k1, Int.toNat_natCast, encS_at l q hlt, k2, he, Tryz.results39]
   exact ⟨by omega, by omega⟩
  ·have k2 : decide ((120 : Int) < (l[q].size : Int)) = false := decide_eq_false (by omega)
   simp only [go_sem, hA, guSt, encS_length, k1, Int.toNat_natCast, encS_at l q hlt, k2]
   exact ⟨⟨by omega, by omega⟩, by unfold inI64; omega, l.length - (q + 1), by omega, q + 1, by omega, rfl, any_step hlt hf (decide_eq_false h2), rfl⟩
 ·have k1 : decide ((q : Int) < (l.length : Int)) = false := decide_eq_false (by omega)
  obtain rfl : q = l.length := by omega
  rw [List.take_length] at hf
  rw [hf] at he
  simp only [go_sem, hA, guSt, encS_length, k1, he, Tryz.results39]
abbrev gdSt (l : List Dc) (q : Nat) : St := ⟨[(0, .d (.sl (encDs l))), (3, .d (.raw (.int .i64 q)))], [], []⟩
abbrev gd2St (l : List Dc) (q k : Nat) : St := ⟨[(0, .d (.sl (encDs l))), (3, .d (.raw (.int .i64 q))), (4, .d (.raw (.int .i64 k)))], [], []⟩
set_option maxRecDepth 100000 in
set_option maxHeartbeats 8000000 in
theorem rGreatDecls_c (l : List Dc) (hb : ∀ d ∈ l, nodesE d.body ≤ 1048576) : Con Tryz.prog 40 [.d (.sl (encDs l))] (.d (.raw (.bool (greatDs l)))) := by
 refine con_of Tryz.func40 rfl (by decide +kernel) rfl rfl (by simp [Tryz.ntmps40]) fun A hA => ?_
 rw [Tryz.ntmps40] at hA
 refine goC 400 ?_
 by_cases h1 : 8 < l.length
 ·have g1 : decide ((8 : Int) < (l.length : Int)) = true := decide_eq_true (by omega)
  have he : greatDs l = true := by unfold greatDs; rw [decide_eq_true h1]; rfl
  simp only [go_sem, hA, encDs_length, g1, he, Tryz.results40]
 have g1 : decide ((8 : Int) < (l.length : Int)) = false := decide_eq_false (by omega)
 have he : greatDs l = l.any greatDc := by unfold greatDs; rw [decide_eq_false h1]; rfl
 simp only [go_sem, hA, encDs_length, g1]
 refine satC_loop [0, 3] [] [] (fun y σ => ∃ q : Nat, q ≤ l.length ∧ y = l.length - q ∧ (l.take q).any greatDc = false ∧ σ = gdSt l q) l.length ⟨0, by omega, by omega, rfl, by simp only [go_sem, gdSt]⟩ ?_
 rintro y σ ⟨q, hq, rfl, hf, rfl⟩
 refine goC 400 ?_
 by_cases hlt : q < l.length
 case neg =>
  have k1 : decide ((q : Int) < (l.length : Int)) = false := decide_eq_false (by omega)
  obtain rfl : q = l.length := by omega
  rw [List.take_length] at hf
  rw [hf] at he
  simp only [go_sem, hA, gdSt, encDs_length, k1, he, Tryz.results40]
 have k1 : decide ((q : Int) < (l.length : Int)) = true := decide_eq_true (by omega)
 obtain ⟨d, hd⟩ : ∃ d, l[q] = d := ⟨_, rfl⟩
 have cg := rGreat_c d.body (hb d (by rw [← hd]; exact List.getElem_mem hlt))
 have hhit : greatDc d = true → greatDs l = true := fun h => by rw [he]; exact any_hit hlt (by rw [hd]; exact h)
 by_cases h2 : 5 < d.names.length
 ·have k2 : decide ((5 : Int) < (d.names.length : Int)) = true := decide_eq_true (by omega)
  have hr := hhit (by unfold greatDc; rw [decide_eq_true h2]; rfl)
  simp only [go_sem, hA, gdSt, encDs_length, encS_length, k1, Int.toNat_natCast, encDs_at l q hlt, hd, encD, k2, undef, hr, Tryz.results40]
  exact ⟨by omega, by omega⟩
 have k2 : decide ((5 : Int) < (d.names.length : Int)) = false := decide_eq_false (by omega)
 simp only [go_sem, hA, gdSt, encDs_length, encS_length, k1, Int.toNat_natCast, encDs_at l q hlt, hd, encD, k2]
 refine ⟨⟨by omega, by omega⟩, ⟨by omega, by omega⟩, ?_⟩
 refine goCall 300 cg rfl (by simp only [go_sem, avE_eq]) (by simp only [go_sem, hA]) ?_
 cases hg : greatE d.body with
 | true =>
  have hr := hhit (by unfold greatDc; rw [hg]; simp)
  simp only [go_sem, hA, hr, Tryz.results40]
 | false =>
  have hdc : greatDc d = d.names.any fun s => decide (100 < s.size) := by unfold greatDc; rw [hg, decide_eq_false h2]; rfl
  simp only [go_sem, hA]
  refine satC_loop [0, 3, 4] [] [] (fun y σ => ∃ k : Nat, k ≤ d.names.length ∧ y = d.names.length - k ∧ ((d.names.take k).any fun s => decide (100 < s.size)) = false ∧ σ = gd2St l q k) d.names.length ⟨0, by omega, by omega, rfl, by simp only [go_sem, gd2St]⟩ ?_
  rintro y σ ⟨k, hk, rfl, hf2, rfl⟩
  refine goC 400 ?_
  by_cases hkl : k < d.names.length
  ·have k3 : decide ((k : Int) < (d.names.length : Int)) = true := decide_eq_true (by omega)
   by_cases h4 : 100 < d.names[k].size
   ·have k4 : decide ((100 : Int) < (d.names[k].size : Int)) = true := decide_eq_true (by omega)
    have hr := hhit (by rw [hdc]; exact any_hit hkl (decide_eq_true h4))
    simp only [go_sem, hA, gd2St, encDs_length, encS_length, k3, Int.toNat_natCast, encDs_at l q hlt, hd, encD, encS_at d.names k hkl, k4, hr, Tryz.results40]
    exact ⟨⟨by omega, by omega⟩, ⟨by omega, by omega⟩, by omega, by omega⟩
   ·have k4 : decide ((100 : Int) < (d.names[k].size : Int)) = false := decide_eq_false (by omega)
    simp only [go_sem, hA, gd2St, encDs_length, encS_length, k3, Int.toNat_natCast, encDs_at l q hlt, hd, encD, encS_at d.names k hkl, k4]
    exact ⟨⟨by omega, by omega⟩, ⟨by omega, by omega⟩, ⟨by omega, by omega⟩, by unfold inI64; omega, d.names.length - (k + 1), by omega, k + 1, by omega, rfl, any_step hkl hf2 (decide_eq_false h4), rfl⟩
  ·have k3 : decide ((k : Int) < (d.names.length : Int)) = false := decide_eq_false (by omega)
   obtain rfl : k = d.names.length := by omega
   rw [List.take_length] at hf2
   simp only [go_sem, hA, gd2St, encDs_length, encS_length, k3, Int.toNat_natCast, encDs_at l q hlt, hd, encD]
   exact ⟨⟨by omega, by omega⟩, by unfold inI64; omega, l.length - (q + 1), by omega, q + 1, by omega, rfl, any_step hlt hf (by rw [hd, hdc]; exact hf2), rfl⟩
end
section
open Go Go.RowKit
def greatFl (x : Fl) : Bool := decide ((120 : Int) < (x.path.size : Int)) || decide ((200 : Int) < (x.data.size : Int))
def greatF (l : List Fl) : Bool := decide (10 < l.length) || l.any greatFl
def greatMo (x : Mo) : Bool := decide ((120 : Int) < (x.label.size : Int)) || (greatU x.uses || greatDs x.decls)
def greatTc (x : Tc) : Bool := decide ((120 : Int) < (x.path.size : Int)) || (decide ((300 : Int) < (x.base.size : Int)) || (decide ((300 : Int) < (x.left.size : Int)) || decide ((300 : Int) < (x.right.size : Int))))
def greatG (m : Mg) : Bool := decide ((4 : Int) < (m.ms.length : Int)) || (greatF m.fs || (decide ((6 : Int) < (m.ts.length : Int)) || (m.ms.any greatMo || m.ts.any greatTc)))
abbrev gfSt (l : List Fl) (q : Nat) : St := ⟨[(0, .d (.sl (encFs l))), (3, .d (.raw (.int .i64 q)))], [], []⟩
set_option maxRecDepth 100000 in
set_option maxHeartbeats 8000000 in
theorem rGreatF_c (l : List Fl) : Con Tryz.prog 15 [.d (.sl (encFs l))] (.d (.raw (.bool (greatF l)))) := by
 refine con_of Tryz.func15 rfl (by decide +kernel) rfl rfl (by simp [Tryz.ntmps15]) fun A hA => ?_
 rw [Tryz.ntmps15] at hA
 refine goC 400 ?_
 by_cases h1 : 10 < l.length
 ·have g1 : decide ((10 : Int) < (l.length : Int)) = true := decide_eq_true (by omega)
  have he : greatF l = true := by unfold greatF; rw [decide_eq_true h1]; rfl
  simp only [go_sem, hA, encFs_length, g1, he, Tryz.results15]
 have g1 : decide ((10 : Int) < (l.length : Int)) = false := decide_eq_false (by omega)
 have he : greatF l = l.any greatFl := by unfold greatF; rw [decide_eq_false h1]; rfl
 simp only [go_sem, hA, encFs_length, g1]
 refine satC_loop [0, 3] [] [] (fun y σ => ∃ q : Nat, q ≤ l.length ∧ y = l.length - q ∧ ((l.take q).any greatFl) = false ∧ σ = gfSt l q) l.length ⟨0, by omega, by omega, rfl, by simp only [go_sem, gfSt]⟩ ?_
 rintro y σ ⟨q, hq, rfl, hf, rfl⟩
 refine goC 400 ?_
 by_cases hlt : q < l.length
 ·have k1 : decide ((q : Int) < (l.length : Int)) = true := decide_eq_true (by omega)
  have hx : greatFl l[q] = (decide ((120 : Int) < (l[q].path.size : Int)) || decide ((200 : Int) < (l[q].data.size : Int))) := rfl
  cases d1 : decide ((120 : Int) < (l[q].path.size : Int)) <;> cases d2 : decide ((200 : Int) < (l[q].data.size : Int))
  all_goals rw [d1, d2] at hx
  ·simp only [go_sem, hA, gfSt, encFs_length, k1, Int.toNat_natCast, encFs_at l q hlt, d1, d2]
   exact ⟨⟨by omega, by omega⟩, ⟨by omega, by omega⟩, by unfold inI64; omega, l.length - (q + 1), by omega, q + 1, by omega, rfl, any_step hlt hf hx, rfl⟩
  all_goals
   rw [any_hit hlt hx] at he
   simp only [go_sem, hA, gfSt, encFs_length, k1, Int.toNat_natCast, encFs_at l q hlt, d1, d2, undef, he, Tryz.results15]
  ·exact ⟨⟨by omega, by omega⟩, by omega, by omega⟩
  ·exact ⟨by omega, by omega⟩
  ·exact ⟨by omega, by omega⟩
 ·have k1 : decide ((q : Int) < (l.length : Int)) = false := decide_eq_false (by omega)
  obtain rfl : q = l.length := by omega
  rw [List.take_length] at hf
  rw [hf] at he
  simp only [go_sem, hA, gfSt, encFs_length, k1, he, Tryz.results15]
set_option maxRecDepth 100000 in
theorem rGreatMo_c (x : Mo) (hb : ∀ d ∈ x.decls, nodesE d.body ≤ 1048576) : Con Tryz.prog 16 [avM x] (.d (.raw (.bool (greatMo x)))) := by
 refine con_of Tryz.func16 rfl (by decide +kernel) rfl rfl (by simp [Tryz.ntmps16]) fun A hA => ?_
 rw [Tryz.ntmps16] at hA
 refine goC 400 ?_
 have hr : greatMo x = (decide ((120 : Int) < (x.label.size : Int)) || (greatU x.uses || greatDs x.decls)) := rfl
 cases d1 : decide ((120 : Int) < (x.label.size : Int)) with
 | true =>
  rw [d1] at hr
  simp only [go_sem, hA, avM, d1, undef, hr, Bool.true_or, Tryz.results16]
 | false =>
  rw [d1, Bool.false_or] at hr
  simp only [go_sem, hA, avM, d1]
  refine goCall 300 (rGreatUses_c x.uses) rfl (by simp only [go_sem]) (by simp only [go_sem, hA]) ?_
  cases d2 : greatU x.uses with
  | true =>
   rw [d2] at hr
   simp only [go_sem, hA, undef, hr, Bool.true_or, Tryz.results16]
  | false =>
   rw [d2, Bool.false_or] at hr
   simp only [go_sem, hA]
   refine goCall 300 (rGreatDecls_c x.decls hb) rfl (by simp only [go_sem]) (by simp only [go_sem, hA]) ?_
   simp only [go_sem, hA, hr, Tryz.results16]
abbrev gg1St (m : Mg) (q : Nat) : St := ⟨[(1, .box 0 0), (3, .d (.raw (.int .i64 q)))], [(0, some (.cell 26 [.d (.sl (encMs m.ms)), .d (.sl (encFs m.fs)), .d (.sl (encCs m.ts))]))], []⟩
abbrev gg2St (m : Mg) (q : Nat) : St := ⟨[(1, .box 0 0), (4, .d (.raw (.int .i64 q)))], [(0, some (.cell 26 [.d (.sl (encMs m.ms)), .d (.sl (encFs m.fs)), .d (.sl (encCs m.ts))]))], []⟩
set_option maxRecDepth 100000 in
set_option maxHeartbeats 16000000 in
theorem rGreatG_c (m : Mg) (hb : ∀ x ∈ m.ms, ∀ d ∈ x.decls, nodesE d.body ≤ 1048576) : Con Tryz.prog 6 [avG m] (.d (.raw (.bool (greatG m)))) := by
 refine con_of Tryz.func6 rfl (by decide +kernel) rfl rfl (by simp [Tryz.ntmps6]) fun A hA => ?_
 rw [Tryz.ntmps6] at hA
 refine goC 400 ?_
 have hr : greatG m = (decide ((4 : Int) < (m.ms.length : Int)) || (greatF m.fs || (decide ((6 : Int) < (m.ts.length : Int)) || (m.ms.any greatMo || m.ts.any greatTc)))) := rfl
 cases d1 : decide ((4 : Int) < (m.ms.length : Int)) with
 | true =>
  rw [d1] at hr
  simp only [go_sem, hA, avG, encMs_length, d1, undef, hr, Bool.true_or, Tryz.results6]
 | false =>
 rw [d1, Bool.false_or] at hr
 have hml : ¬ 4 < m.ms.length := fun h => by have := of_decide_eq_false d1; omega
 simp only [go_sem, hA, avG, encMs_length, d1]
 refine goCall 300 (rGreatF_c m.fs) rfl (by simp only [go_sem]) (by simp only [go_sem, hA]) ?_
 cases d2 : greatF m.fs with
 | true =>
  rw [d2] at hr
  simp only [go_sem, hA, undef, hr, Bool.true_or, Tryz.results6]
 | false =>
 rw [d2, Bool.false_or] at hr
 cases d3 : decide ((6 : Int) < (m.ts.length : Int)) with
 | true =>
  rw [d3] at hr
  simp only [go_sem, hA, encCs_length, d3, hr, Bool.true_or, Tryz.results6]
 | false =>
 rw [d3, Bool.false_or] at hr
 have htl : ¬ 6 < m.ts.length := fun h => by have := of_decide_eq_false d3; omega
 simp only [go_sem, hA, encCs_length, d3]
 refine satC_loop [1, 3] [0] [] (fun y σ => ∃ q : Nat, q ≤ m.ms.length ∧ y = m.ms.length - q ∧ ((m.ms.take q).any greatMo) = false ∧ σ = gg1St m q) m.ms.length ⟨0, by omega, by omega, rfl, by simp only [go_sem, gg1St]⟩ ?_
 rintro y σ ⟨q, hq, rfl, hf, rfl⟩
 refine goC 400 ?_
 by_cases hlt : q < m.ms.length
 ·have k1 : decide ((q : Int) < (m.ms.length : Int)) = true := decide_eq_true (by omega)
  simp only [go_sem, hA, gg1St, encMs_length, k1, Int.toNat_natCast, encMs_at m.ms q hlt, encM]
  refine ⟨⟨by omega, by omega⟩, ?_⟩
  refine goCall 300 (rGreatMo_c m.ms[q] (hb _ (List.getElem_mem hlt))) rfl (by simp only [go_sem, avM]) (by simp only [go_sem, hA]) ?_
  cases hx : greatMo m.ms[q] with
  | true =>
   rw [any_hit hlt hx, Bool.true_or] at hr
   simp only [go_sem, hA, hr, Tryz.results6]
  | false =>
   simp only [go_sem, hA]
   exact ⟨by unfold inI64; omega, m.ms.length - (q + 1), by omega, q + 1, by omega, rfl, any_step hlt hf hx, rfl⟩
 have k1 : decide ((q : Int) < (m.ms.length : Int)) = false := decide_eq_false (by omega)
 obtain rfl : q = m.ms.length := by omega
 rw [List.take_length] at hf
 rw [hf, Bool.false_or] at hr
 simp only [go_sem, hA, gg1St, encMs_length, k1]
 refine satC_loop [1, 4] [0] [] (fun y σ => ∃ q : Nat, q ≤ m.ts.length ∧ y = m.ts.length - q ∧ ((m.ts.take q).any greatTc) = false ∧ σ = gg2St m q) m.ts.length ⟨0, by omega, by omega, rfl, by simp only [go_sem, gg2St]⟩ ?_
 clear hf hlt k1 hq
 rintro y σ ⟨q, hq, rfl, hf, rfl⟩
 refine goC 400 ?_
 by_cases hlt : q < m.ts.length
 ·have k1 : decide ((q : Int) < (m.ts.length : Int)) = true := decide_eq_true (by omega)
  have hx : greatTc m.ts[q] = (decide ((120 : Int) < (m.ts[q].path.size : Int)) || (decide ((300 : Int) < (m.ts[q].base.size : Int)) || (decide ((300 : Int) < (m.ts[q].left.size : Int)) || decide ((300 : Int) < (m.ts[q].right.size : Int))))) := rfl
  cases e1 : decide ((120 : Int) < (m.ts[q].path.size : Int)) <;> cases e2 : decide ((300 : Int) < (m.ts[q].base.size : Int)) <;> cases e3 : decide ((300 : Int) < (m.ts[q].left.size : Int)) <;> cases e4 : decide ((300 : Int) < (m.ts[q].right.size : Int))
  all_goals rw [e1, e2, e3, e4] at hx
  ·simp only [go_sem, hA, gg2St, encCs_length, k1, Int.toNat_natCast, encCs_at m.ts q hlt, encC, e1, e2, e3, e4]
   exact ⟨⟨by omega, by omega⟩, by unfold inI64; omega, m.ts.length - (q + 1), by omega, q + 1, by omega, rfl, any_step hlt hf hx, rfl⟩
  all_goals
   rw [any_hit hlt hx] at hr
   simp only [go_sem, hA, gg2St, encCs_length, k1, Int.toNat_natCast, encCs_at m.ts q hlt, encC, e1, e2, e3, e4, undef, hr, Tryz.results6]
   exact ⟨by omega, by omega⟩
 ·have k1 : decide ((q : Int) < (m.ts.length : Int)) = false := decide_eq_false (by omega)
  obtain rfl : q = m.ts.length := by omega
  rw [List.take_length] at hf
  rw [hf] at hr
  simp only [go_sem, hA, gg2St, encCs_length, k1, hr, Tryz.results6]
end
section
open Go Go.RowKit
abbrev sgSt (x y : Mg) (q : Nat) : St := ⟨[(2, .box 0 0), (3, .box 1 0), (5, .d (.raw (.int .i64 q)))], [(0, some (.cell 26 [.d (.sl (encMs x.ms)), .d (.sl (encFs x.fs)), .d (.sl (encCs x.ts))])), (1, some (.cell 26 [.d (.sl (encMs y.ms)), .d (.sl (encFs y.fs)), .d (.sl (encCs y.ts))]))], []⟩
set_option maxRecDepth 100000 in
set_option maxHeartbeats 16000000 in
theorem rSameG_c (x y : Mg) (hm : x.ms.length ≤ 1048576) (hf : x.fs.length ≤ 1048576) (ht : x.ts.length ≤ 1048576) (hb : ∀ z ∈ x.ms, z.uses.length ≤ 1048576 ∧ z.decls.length ≤ 1048576 ∧ ∀ d ∈ z.decls, nodesE d.body ≤ 1048576 ∧ d.names.length ≤ 1048576) :
  Con Tryz.prog 12 [avG x, avG y] (.d (.raw (.bool (eqG x y)))) := by
 refine con_of Tryz.func12 rfl (by decide +kernel) rfl rfl (by simp [Tryz.ntmps12]) fun A hA => ?_
 rw [Tryz.ntmps12] at hA
 refine goC 400 ?_
 have hr : eqG x y = (allE eqMo x.ms y.ms && (allE eqFl x.fs y.fs && allE eqTc x.ts y.ts)) := rfl
 simp only [go_sem, hA, avG]
 refine goCall 400 (rSameMods_c x.ms y.ms hm hb) rfl (by simp only [go_sem]) (by simp only [go_sem, hA]) ?_
 cases d1 : allE eqMo x.ms y.ms with
 | false =>
  rw [d1, Bool.false_and] at hr
  simp only [go_sem, hA, undef, hr, Tryz.results12]
 | true =>
 rw [d1, Bool.true_and] at hr
 simp only [go_sem, hA]
 refine goCall 400 (rSameFiles_c x.fs y.fs hf) rfl (by simp only [go_sem]) (by simp only [go_sem, hA]) ?_
 cases d2 : allE eqFl x.fs y.fs with
 | false =>
  rw [d2, Bool.false_and] at hr
  simp only [go_sem, hA, undef, hr, Tryz.results12]
 | true =>
 rw [d2, Bool.true_and] at hr
 by_cases hlm : x.ts.length = y.ts.length
 ·have g0 : (decide ¬ (x.ts.length : Int) = (y.ts.length : Int)) = false := decide_eq_false (by omega)
  simp only [go_sem, hA, encCs_length, g0]
  refine satC_loop [2, 3, 5] [0, 1] [] (fun n σ => ∃ q : Nat, q ≤ x.ts.length ∧ n = x.ts.length - q ∧ x.ts.take q = y.ts.take q ∧ σ = sgSt x y q) x.ts.length ⟨0, by omega, by omega, rfl, by simp only [go_sem, sgSt]⟩ ?_
  rintro n σ ⟨q, hq, rfl, hf, rfl⟩
  refine goC 400 ?_
  by_cases hlt : q < x.ts.length
  ·have g1 : decide ((q : Int) < (x.ts.length : Int)) = true := decide_eq_true (by omega)
   have hq2 : q < y.ts.length := by omega
   obtain ⟨d, hd⟩ : ∃ d, x.ts[q] = d := ⟨_, rfl⟩
   obtain ⟨e, he⟩ : ∃ e, y.ts[q] = e := ⟨_, rfl⟩
   have hrr : (decide (d.path = e.path) && ((d.inB == e.inB) && ((d.inL == e.inL) && ((d.inR == e.inR) && (decide (d.base = e.base) && (decide (d.left = e.left) && decide (d.right = e.right))))))) = eqTc d e := rfl
   cases hs : eqTc d e with
   | true =>
    have hde := (eqTc_iff d e).1 hs
    rw [hs] at hrr
    simp only [go_sem, hA, sgSt, encCs_length, g1, Int.toNat_natCast, encCs_at x.ts q hlt, encCs_at y.ts q hq2, hd, he, encC, String.reduceEq, hrr, Bool.not_true, mixed]
    exact ⟨⟨by omega, by omega⟩, ⟨by omega, by omega⟩, ⟨by kernel_rfl, by kernel_rfl⟩, by show chk _ _ _ = true; kernel_rfl, by unfold inI64; omega, x.ts.length - (q + 1), by omega, q + 1, by omega, rfl, by rw [List.take_succ_eq_append_getElem hlt, List.take_succ_eq_append_getElem hq2, hf, hd, he, hde], rfl⟩
   | false =>
    rw [hs] at hrr
    have hne : allE eqTc x.ts y.ts = false := allE_false eqTc_iff fun e' => by
     have : x.ts[q] = y.ts[q] := by simp only [e']
     rw [hd, he] at this
     rw [(eqTc_iff d e).2 this] at hs
     cases hs
    rw [hne] at hr
    simp only [go_sem, hA, sgSt, encCs_length, g1, Int.toNat_natCast, encCs_at x.ts q hlt, encCs_at y.ts q hq2, hd, he, encC, String.reduceEq, hrr, Bool.not_false, hr, mixed, Tryz.results12]
    exact ⟨⟨by omega, by omega⟩, ⟨by omega, by omega⟩, ⟨by kernel_rfl, by kernel_rfl⟩, by show chk _ _ _ = true; kernel_rfl⟩
  ·have g1 : decide ((q : Int) < (x.ts.length : Int)) = false := decide_eq_false (by omega)
   obtain rfl : q = x.ts.length := by omega
   have he : x.ts = y.ts := by rw [List.take_length, List.take_of_length_le (by omega)] at hf; exact hf
   rw [(allE_iff eqTc_iff _ _).2 he] at hr
   simp only [go_sem, hA, sgSt, encCs_length, g1, Tryz.results12, hr]
 ·have g0 : (decide ¬ (x.ts.length : Int) = (y.ts.length : Int)) = true := decide_eq_true (by omega)
  have hne : allE eqTc x.ts y.ts = false := allE_false eqTc_iff fun e => hlm (by rw [e])
  rw [hne] at hr
  simp only [go_sem, hA, encCs_length, g0, Tryz.results12, hr]
abbrev fdSt (l : List Sq) (x : Sq) (q : Nat) : St := ⟨[(3, .box 0 0), (7, .d (.sl (encQs l))), (8, .d (.raw (.int .i64 l.length))), (9, .d (.raw (.int .i64 q)))], [(0, some (.cell 38 [.d (.raw (.string x.label)), .d (.raw (.int .i64 x.kind)), .d (.raw (.int .i64 x.id)), .d (.raw (.int .i64 x.pos))]))], []⟩
set_option maxRecDepth 100000 in
set_option maxHeartbeats 8000000 in
theorem lFind_c (l : List Sq) (x : Sq) (hl : l.length ≤ 1099501048576) : Con Tryz.prog 13 [.d (.sl (encQs l)), avQ x] (.d (.raw (.int .i64 (ixF (fun y => eqQ y x) l)))) := by
 refine con_of Tryz.func13 rfl (by decide +kernel) rfl rfl (by simp [Tryz.ntmps13]) fun A hA => ?_
 rw [Tryz.ntmps13] at hA
 refine goC 400 ?_
 simp only [go_sem, hA, avQ, encQs_length]
 refine satC_loop [3, 7, 8, 9] [0] [] (fun y σ => ∃ q : Nat, q ≤ l.length ∧ y = l.length - q ∧ ((l.take q).any fun y => eqQ y x) = false ∧ σ = fdSt l x q) l.length ⟨0, by omega, by omega, rfl, by simp only [go_sem, fdSt]⟩ ?_
 rintro y σ ⟨q, hq, rfl, hf, rfl⟩
 refine goC 400 ?_
 by_cases hlt : q < l.length
 ·have k1 : decide ((q : Int) < (l.length : Int)) = true := decide_eq_true (by omega)
  obtain ⟨d, hd⟩ : ∃ d, l[q] = d := ⟨_, rfl⟩
  have he : ((decide (d.label = x.label)) && ((decide (d.kind = x.kind)) && ((decide (d.id = x.id)) && (decide (d.pos = x.pos))))) = eqQ d x := rfl
  cases hx : eqQ d x with
  | true =>
   rw [hx] at he
   simp only [go_sem, hA, fdSt, encQs_length, k1, Int.toNat_natCast, encQs_at l q hlt, hd, encQ, spR, String.reduceEq, he, ixF_hit hlt hf (show eqQ l[q] x = true by rw [hd]; exact hx), Tryz.results13]
   exact ⟨⟨by omega, by omega⟩, ⟨by kernel_rfl, by kernel_rfl⟩⟩
  | false =>
   rw [hx] at he
   simp only [go_sem, hA, fdSt, encQs_length, k1, Int.toNat_natCast, encQs_at l q hlt, hd, encQ, spR, String.reduceEq, he]
   exact ⟨⟨by omega, by omega⟩, ⟨by kernel_rfl, by kernel_rfl⟩, by unfold inI64; omega, l.length - (q + 1), by omega, q + 1, by omega, rfl, any_step hlt hf (show eqQ l[q] x = false by rw [hd]; exact hx), rfl⟩
 ·have k1 : decide ((q : Int) < (l.length : Int)) = false := decide_eq_false (by omega)
  obtain rfl : q = l.length := by omega
  rw [List.take_length] at hf
  have hr : ixF (fun y => eqQ y x) l = -1 := by unfold ixF; rw [hf]; rfl
  simp only [go_sem, hA, fdSt, k1, hr, Tryz.results13]
end
section
open Go Go.RowKit
theorem any_false {α : Type} {p : α → Bool} {l : List α} (h : l.any p = false) {x : α} (hx : x ∈ l) : p x = false := by
 cases hp : p x with
 | false => rfl
 | true => rw [List.any_eq_true.2 ⟨x, hx, hp⟩] at h; cases h
theorem great_good {m : Mg} (h : greatG m = false) : m.Good := by
 simp only [greatG, Bool.or_eq_false_iff, decide_eq_false_iff_not] at h
 obtain ⟨h1, h2, h3, h4, h5⟩ := h
 simp only [greatF, Bool.or_eq_false_iff, decide_eq_false_iff_not] at h2
 have hm : ∀ x ∈ m.ms, x.decls.length ≤ 8 ∧ ∀ d ∈ x.decls, nodesE d.body ≤ 40 := fun x hx => by
  have := any_false h4 hx
  simp only [greatMo, greatDs, Bool.or_eq_false_iff, decide_eq_false_iff_not] at this
  refine ⟨by omega, fun d hd => ?_⟩
  have h6 := any_false this.2.2.2 hd
  simp only [greatDc, Bool.or_eq_false_iff] at h6
  have h7 := h6.1.2
  simp only [greatE, Bool.or_eq_false_iff, decide_eq_false_iff_not] at h7
  omega
 refine ⟨⟨by omega, by omega, fun x hx d hd => ?_, fun x hx => ?_, fun x hx => ?_⟩, by omega, fun x hx => ?_⟩
 ·have := (hm x hx).2 d hd; omega
 ·have := any_false h2.2 hx
  simp only [greatFl, Bool.or_eq_false_iff, decide_eq_false_iff_not] at this
  omega
 ·have := any_false h5 hx
  simp only [greatTc, Bool.or_eq_false_iff, decide_eq_false_iff_not] at this
  omega
 ·have := (hm x hx).1; omega
def listV (m : Mg) : List Sq := if settX m = 0 then listQ m else []
theorem listX_enc (m : Mg) : listX m = encQs (listV m) := by
 unfold listX listV
 split
 ·exact listG_enc m
 ·rfl
theorem listV_c (m : Mg) (hg : m.Good) : Con Tryz.prog 8 [avG m] (.d (.sl (encQs (listV m)))) := by
 rw [← listX_enc]
 exact sList_c m hg.fine hg.tl hg.dl (fun x _ => confM_fit x) (modsP_few m hg.fine.ml)
theorem clean_list {m : Mg} (h : settX m = 0) : cleanG m = decide (((listQ m).length : Int) = 0) := by
 have hc : ∀ x ∈ m.ms, (cleanM x = true ↔ confMQ x = []) := fun x hx => by
  have h0 := mods_ok h x hx
  unfold cleanM confMQ
  rw [if_pos h0, decide_eq_true h0, Bool.true_and, conf_enc, encQs_length, decide_eq_true_eq]
  constructor
  ·intro hl; exact List.eq_nil_of_length_eq_zero (by omega)
  ·intro hl; rw [hl]; rfl
 rw [Bool.eq_iff_iff]
 unfold cleanG listQ
 simp only [Bool.and_eq_true, decide_eq_true_eq, Bool.not_eq_true', List.length_append, List.length_map]
 constructor
 ·rintro ⟨h1, h2⟩
  have : m.ms.flatMap confMQ = [] := by
   rw [List.flatMap_eq_nil_iff]
   intro x hx
   have := any_false h2 hx
   exact (hc x hx).1 (by simpa using this)
  rw [this]
  simpa using h1
 ·intro hl
  have h1 : m.ms.flatMap confMQ = [] := List.eq_nil_of_length_eq_zero (by omega)
  refine ⟨by omega, ?_⟩
  rw [List.any_eq_false]
  intro x hx
  have := (hc x hx).2 (List.flatMap_eq_nil_iff.1 h1 x hx)
  simp [this]
theorem choose_ok {m : Mg} {i side : Int} (h : (chooseX m i side).2 = 0) : settX (chooseX m i side).1 = 0 := by
 unfold chooseX at h ⊢
 split
 ·rename_i h1; rw [if_pos h1] at h; exact absurd h h1
 rename_i h1; rw [if_neg h1] at h
 split
 ·rename_i h2; rw [if_pos h2] at h; exact absurd h (by simp)
 rename_i h2; rw [if_neg h2] at h
 split
 ·rename_i h3; rw [if_pos h3] at h; exact absurd h h3
 rename_i h3; rw [if_neg h3] at h
 split
 ·rename_i h4; rw [if_pos h4] at h; exact absurd h h4
 ·rename_i h4; exact Decidable.not_not.1 h4
theorem choose_bad {m : Mg} {i side : Int} (h : ¬ (chooseX m i side).2 = 0) : (chooseX m i side).1 = zeroG := by
 unfold chooseX at h ⊢
 split
 ·rfl
 rename_i h1; rw [if_neg h1] at h
 split
 ·rfl
 rename_i h2; rw [if_neg h2] at h
 split
 ·rfl
 rename_i h3; rw [if_neg h3] at h
 split
 ·rfl
 ·rename_i h4; rw [if_neg h4] at h; exact absurd rfl h
end
section
open Go Go.RowKit
variable {P : Program} {A : Base P} {σ : St}
def i64B (n : Int) : Bool := decide (-9223372036854775808 ≤ n) && decide (n ≤ 9223372036854775807)
theorem i64B_ok {n : Int} (h : i64B n = true) : inI64 n := by
 unfold i64B at h
 simp only [Bool.and_eq_true, decide_eq_true_eq] at h
 exact h
def needLoad (σ : St) : AV → Bool
 | .box _ _ => true
 | .at_ _ => true
 | .elem r _ i _ => match σ.blk r with
  | some (.row _ _ rows) => decide (i < rows.length)
  | _ => false
 | .selem r _ ver i _ => match σ.tok r with
  | some k => match k.ex with
   | some rows => decide (k.len = ver) && decide (i < rows.length)
   | none => false
  | none => false
 | _ => false
theorem needLoad_ok {t : TypeId} {p x : AV} {e : Eff} {n : Prop} (h : outLoad P σ t p = some (x, e, n)) (hb : needLoad σ p = true) : n := by
 cases p with
 | box r j =>
  simp only [outLoad] at h
  split at h
  ·cases hl : loaded P t _ with
   | none => rw [hl] at h; cases h
   | some y => rw [hl] at h; cases h; trivial
  ·cases h
 | at_ cs =>
  simp only [outLoad] at h
  cases hl : loaded P t (cs.map .d) with
  | none => rw [hl] at h; cases h
  | some y => rw [hl] at h; cases h; trivial
 | elem r st i j =>
  simp only [outLoad] at h
  simp only [needLoad] at hb
  split at h
  ·rename_i st' ty rows hr
   rw [hr] at hb
   split at h
   ·cases hl : loaded P t (((rows.getD i []).drop j).map .d) with
    | none => rw [hl] at h; cases h
    | some y => rw [hl] at h; cases h; simpa using hb
   ·cases h
  ·cases h
 | selem r st ver i j =>
  simp only [outLoad] at h
  simp only [needLoad] at hb
  split at h
  ·rename_i k hr
   rw [hr] at hb
   simp only at hb
   split at h
   ·rename_i rows hx
    rw [hx] at hb
    split at h
    ·cases hl : loaded P t (((rows.getD i []).drop j).map .d) with
     | none => rw [hl] at h; cases h
     | some y => rw [hl] at h; cases h; simpa using hb
    ·cases h
   ·cases h
  ·cases h
 | _ => cases hb
theorem needStore_ok {t : TypeId} {p x y : AV} {e : Eff} {n : Prop} (h : outStore P σ t y p = some (x, e, n)) (hb : needLoad σ p = true) : n := by
 cases p with
 | box r j =>
  simp only [outStore] at h
  split at h
  ·split at h
   ·cases h; trivial
   ·cases h
  ·cases h
 | at_ cs => simp only [outStore] at h; cases h
 | elem r st i j =>
  simp only [outStore] at h
  simp only [needLoad] at hb
  split at h
  ·rename_i st' ty rows hr
   rw [hr] at hb
   split at h
   ·split at h
    ·cases h; simpa using hb
    ·cases h
   ·cases h
  ·cases h
 | selem r st ver i j =>
  simp only [outStore] at h
  simp only [needLoad] at hb
  split at h
  ·rename_i k hr
   rw [hr] at hb
   simp only at hb
   split at h
   ·rename_i rows ds hx hd
    rw [hx] at hb
    split at h
    ·cases h; simpa using hb
    ·cases h
   ·cases h
  ·cases h
 | _ => cases hb
def needIndex (P : Program) (t : TypeId) : AV → AV → Bool
 | .own _ len, .d (.raw (.int _ i)) => decide (0 ≤ i) && decide (i < (len : Nat))
 | .stk _ _ _ _ len, .d (.raw (.int _ i)) => decide (0 ≤ i) && decide (i < (len : Nat))
 | x, .d (.raw (.int _ i)) => match P.underlying t, x.rows with
  | some (.slice e), some rows => decide (0 ≤ i) && (decide (i < (rows.length : Nat)) && decide ((rows.getD i.toNat []).length = P.cellsOf e))
  | _, _ => false
 | _, _ => false
theorem needIndex_ok {t : TypeId} {p q x : AV} {e : Eff} {n : Prop} (h : outIndex P t p q = some (x, e, n)) (hb : needIndex P t p q = true) : n := by
 unfold outIndex at h
 split at h
 ·rename_i k i
  split at h
  ·rename_i el ht
   split at h
   ·simp only [needIndex] at hb
    split at h
    ·cases h
    ·cases h; simpa using hb
   ·simp only [needIndex] at hb
    split at h
    ·cases h
    ·split at h
     ·cases h; simpa using hb
     ·cases h
   ·rename_i x' hn1 hn2
    split at h
    ·rename_i rows hr
     have hb' : (decide (0 ≤ i) && (decide (i < (rows.length : Nat)) && decide ((rows.getD i.toNat []).length = P.cellsOf el))) = true := by
      unfold needIndex at hb
      split at hb
      ·rename_i r len _ _ heq; exact absurd rfl (hn1 _ _)
      ·rename_i heq; exact absurd rfl (hn2 _ _ _ _ _)
      ·rename_i heq
       cases heq
       rw [ht, hr] at hb
       exact hb
      ·cases hb
     split at h
     ·cases h
     ·cases h; simpa using hb'
    ·cases h
  ·cases h
 ·cases h
def isI64 : IntKind → Bool
 | .i64 => true
 | _ => false
def needV (op : BinOp) (x y : Value) : Bool :=
 match x, y with
 | .int k a, .int _ b =>
  match op with
  | .add => !isI64 k || i64B (a + b)
  | .sub => !isI64 k || i64B (a - b)
  | .mul => !isI64 k || i64B (a * b)
  | .quo => decide (b ≠ 0) && (!isI64 k || i64B (a.tdiv b))
  | .rem => decide (b ≠ 0)
  | _ => true
 | .string a, .string b => decide (((a.size + b.size : Nat) : Int) ≤ 9223372036854775807)
 | _, _ => true
theorem needV_ok {op : BinOp} {x y : Value} {r : Value × Prop} (h : binV op x y = some r) (hb : needV op x y = true) : r.2 := by
 unfold binV at h
 split at h
 ·simp only [needV, isI64, Bool.not_true, Bool.false_or] at hb
  split at h <;> (first | (cases h; first | trivial | exact i64B_ok hb | (simp only [Bool.and_eq_true, decide_eq_true_eq] at hb; exact ⟨hb.1, i64B_ok hb.2⟩) | simpa using hb) | cases h)
 ·simp only [needV] at hb
  split at h
  ·split at h <;> (first | (cases h; first | trivial | (simp only [Bool.and_eq_true, decide_eq_true_eq] at hb; exact hb.1) | simpa using hb) | cases h)
  ·cases h
 ·simp only [needV] at hb
  split at h <;> (first | (cases h; first | trivial | simpa using hb) | cases h)
 ·cases h
def needEq (P : Program) (t : TypeId) (x y : AV) : Bool :=
 match P.underlying t with
 | some (.int _) => match x, y with
  | .d (.raw (.int k _)), .d (.raw (.int yk b)) => decide (0 ≤ b) && decide (k = yk)
  | _, _ => false
 | some (.pointer _) => true
 | some (.struct _) => !P.stoodInHeld t && !P.eqGuardType P.depth t
 | some (.array 2 e) => decide (P.cellsOf e = 1) && (decide (aggOf P e = some false) && !P.eqGuardType P.depth t)
 | _ => false
theorem eqBv_need {op : BinOp} {b : Bool} {need : Prop} {x : AV} {e : Eff} {n : Prop} (h : eqBv op b need = some (x, e, n)) : n = need := by
 unfold eqBv at h
 split at h
 ·cases h; rfl
 ·cases h; rfl
 ·cases h
theorem needEq_ok {op : BinOp} {t : TypeId} {x y z : AV} {e : Eff} {n : Prop} (h : outEq P op t x y = some (z, e, n)) (hb : needEq P t x y = true) : n := by
 unfold outEq at h
 unfold needEq at hb
 split at h
 ·rename_i ht
  rw [ht] at hb
  split at h
  ·simp only [Bool.and_eq_true, decide_eq_true_eq] at hb
   unfold outBits at h
   split at h <;> (first | (cases h; first | exact hb.1 | exact hb.2) | cases h)
  ·cases h
 ·split at h
  ·rw [eqBv_need h]; trivial
  ·split at h
   ·rw [eqBv_need h]; trivial
   ·split at h
    ·split at h
     ·rw [eqBv_need h]; trivial
     ·cases h
    ·cases h
 ·rename_i ht
  rw [ht] at hb
  simp only [Bool.and_eq_true, Bool.not_eq_true'] at hb
  split at h
  ·split at h
   ·split at h
    ·rw [eqBv_need h]; exact hb
    ·cases h
   ·cases h
  ·cases h
 ·rename_i ht
  rw [ht] at hb
  simp only [Bool.and_eq_true, Bool.not_eq_true', decide_eq_true_eq] at hb
  split at h
  ·split at h
   ·rw [eqBv_need h]; exact hb
   ·cases h
  ·cases h
 ·cases h
def needBin (P : Program) (op : BinOp) (t : TypeId) : AV → AV → Bool
 | .d (.raw (.bool _)), .d (.raw (.bool _)) => true
 | .d (.raw x), .d (.raw y) => match binV op x y with
  | some _ => needV op x y
  | none => needEq P t (.d (.raw x)) (.d (.raw y))
 | x, y => needEq P t x y
theorem needBin_ok {op : BinOp} {t : TypeId} {p q x : AV} {e : Eff} {n : Prop} (h : outBin P op t p q = some (x, e, n)) (hb : needBin P op t p q = true) : n := by
 unfold outBin at h
 split at h
 ·split at h
  ·rename_i a b _ _
   cases hq : boolEq op a b with
   | none => rw [hq] at h; cases h
   | some r => rw [hq] at h; cases h; trivial
  ·cases h
 ·rename_i x' y' hnb
  have hb' : (match binV op x' y' with | some _ => needV op x' y' | none => needEq P t (.d (.raw x')) (.d (.raw y'))) = true := by
   unfold needBin at hb
   split at hb
   ·rename_i e1 e2
    cases e1; cases e2
    exact absurd rfl (hnb _ _ rfl)
   ·rename_i e1 e2
    cases e1; cases e2
    exact hb
   ·rename_i hn
    exact absurd rfl (hn _ _ rfl)
  split at h
  ·rename_i r hr
   rw [hr] at hb'
   cases h
   exact needV_ok hr hb'
  ·rename_i hr
   rw [hr] at hb'
   exact needEq_ok h hb'
 ·rename_i hn1 hn2
  refine needEq_ok h ?_
  unfold needBin at hb
  split at hb
  ·exact absurd rfl (hn1 _ _ rfl)
  ·exact absurd rfl (hn2 _ _ rfl)
  ·exact hb
end
section
open Go Go.RowKit
variable {P : Program} {A : Base P} {σ : St}
def allLen (st : Nat) (rows : List (List D)) : Bool := rows.all fun r => decide (r.length = st)
theorem allLen_ok {st : Nat} {rows : List (List D)} (h : allLen st rows = true) : ∀ r ∈ rows, r.length = st := fun r hr => by
 have := List.all_eq_true.1 h r hr
 simpa using this
def allFit (st : Nat) (rows : List (List D)) : Bool := rows.all fun r => decide (r.length = st) && r.all D.one
theorem allFit_ok {st : Nat} {rows : List (List D)} (h : allFit st rows = true) : rowsFit st rows := fun r hr => by
 have := List.all_eq_true.1 h r hr
 simp only [Bool.and_eq_true, decide_eq_true_eq, List.all_eq_true] at this
 exact this
def needAppend (P : Program) (kk : Option Tok) (t : TypeId) (x y : AV) : Bool :=
 match P.underlying t, y.rows with
 | some (.slice e), some rows2 => allFit (P.cellsOf e) rows2 && (match x with
  | .grow _ rows => match kk with
   | some k => decide (rows.length = k.len) && (allLen (P.cellsOf e) rows && decide (rows.length + rows2.length ≤ 1099511627776))
   | none => false
  | .stk _ _ ver _ len => match kk with
   | some k => match k.ex with
    | some rows => decide (k.len = ver) && (decide (len ≤ rows.length) && decide (len + rows2.length ≤ 1099511627776))
    | none => false
   | none => false
  | _ => decide (rows2.length ≤ 1099511627776))
 | _, _ => false
theorem needAppend_ok {kk : Option Tok} {me : Nat} {t : TypeId} {p q x : AV} {e : Eff} {n : Prop} (h : outAppend P kk me t p q = some (x, e, n)) (hb : needAppend P kk t p q = true) : n := by
 unfold outAppend at h
 unfold needAppend at hb
 split at h
 ·rename_i el rows2 ht hq
  rw [ht, hq] at hb
  simp only [Bool.and_eq_true] at hb
  obtain ⟨hb1, hb2⟩ := hb
  have hf := allFit_ok hb1
  split at h
  ·split at h
   ·split at h
    ·simp only at hb2
     split at h
     ·simp only [Bool.and_eq_true, decide_eq_true_eq] at hb2
      split at h
      ·cases h; exact ⟨hb2.1, hf, allLen_ok hb2.2.1, hb2.2.2⟩
      ·cases h
     ·cases h
    ·simp only at hb2
     split at h
     ·split at h
      ·rename_i hx
       simp only [hx, Bool.and_eq_true, decide_eq_true_eq] at hb2
       split at h
       ·cases h; exact ⟨hb2.1, hf, hb2.2.1, hb2.2.2⟩
       ·cases h
      ·cases h
     ·cases h
    ·simp only [decide_eq_true_eq] at hb2
     cases h; exact ⟨hf, hb2⟩
    ·cases h
   ·cases h
  ·cases h
 ·cases h
def needAppendS (kk : Option Tok) (x y : AV) : Bool :=
 match y with
 | .d (.raw (.string s)) => match x with
  | .grow _ rows => match kk with
   | some k => decide (rows.length = k.len) && (allLen 1 rows && decide (k.len + s.size ≤ 1099511627776))
   | none => false
  | _ => decide (s.size ≤ 1099511627776)
 | _ => false
theorem needAppendS_ok {kk : Option Tok} {me : Nat} {t u : TypeId} {p q x : AV} {e : Eff} {n : Prop} (h : outAppendS P kk me t u p q = some (x, e, n)) (hb : needAppendS kk p q = true) : n := by
 unfold outAppendS at h
 split at h
 ·split at h
  ·split at h
   ·split at h
    ·unfold needAppendS at hb
     simp only at hb
     split at h
     ·simp only [Bool.and_eq_true, decide_eq_true_eq] at hb
      split at h
      ·cases h; exact ⟨hb.1, allLen_ok hb.2.1, hb.2.2⟩
      ·cases h
     ·cases h
    ·unfold needAppendS at hb
     simp only [decide_eq_true_eq] at hb
     cases h; exact hb
    ·cases h
   ·cases h
  ·cases h
 ·cases h
def needSlice (P : Program) (t : TypeId) (x : AV) (lo hi : Option AV) : Bool :=
 match P.underlying t with
 | some .string => match x with
  | .d (.raw (.string s)) => match bound lo 0, bound hi s.size with
   | some l, some h => decide (0 ≤ l) && (decide (l ≤ h) && decide (h ≤ (s.size : Nat)))
   | _, _ => false
  | _ => false
 | some (.slice e) => match x with
  | .stk _ _ _ _ len => match bound lo 0, bound hi len with
   | some l, some h => decide (0 ≤ l) && (decide (l ≤ h) && decide (h ≤ (len : Nat)))
   | _, _ => false
  | x => match x.rows with
   | some rows => match bound lo 0, bound hi rows.length with
    | some l, some h => allLen (P.cellsOf e) rows && (decide (0 ≤ l) && (decide (l ≤ h) && decide (h ≤ (rows.length : Nat))))
    | _, _ => false
   | none => false
 | _ => false
def needCall (P : Program) (σ : St) (c : Call) : Bool :=
 match c.callee, c.args.toList, c.argTypes.toList with
 | .builtin .len, [_], [_] => true
 | .builtin .append, [p, q], [t, t'] => if t = t' then needAppend P (tokOf σ (σ.eval p)) t (σ.eval p) (σ.eval q) else needAppendS (tokOf σ (σ.eval p)) (σ.eval p) (σ.eval q)
 | _, _, _ => false
theorem needCall_ok {me : Nat} {c : Call} {x : AV} {e : Eff} {n : Prop} (h : outCall P σ me c = some (x, e, n)) (hb : needCall P σ c = true) : n := by
 unfold outCall at h
 unfold needCall at hb
 split at h
 ·unfold outLen at h
  split at h
  ·cases h; trivial
  ·cases h; trivial
  ·cases h; trivial
  ·rename_i q _ _
   cases hr : AV.rows _ with
   | none => rw [hr] at h; cases h
   | some rows => rw [hr] at h; cases h; trivial
  ·cases h
 ·rename_i h1 h2 h3
  rw [h1, h2, h3] at hb
  simp only at hb
  split at h
  ·rename_i ht
   rw [if_pos ht] at hb
   exact needAppend_ok h hb
  ·rename_i ht
   rw [if_neg ht] at hb
   exact needAppendS_ok h hb
 ·rename_i h1 h2 h3
  rw [h1, h2, h3] at hb
  cases hb
 ·cases h
def needB (P : Program) (σ : St) : Op → Bool
 | .load _ p => needLoad σ (σ.eval p)
 | .store _ p _ => needLoad σ (σ.eval p)
 | .binOp op t p q _ => needBin P op t (σ.eval p) (σ.eval q)
 | .unOp .not _ _ => true
 | .unOp .neg _ p => match σ.eval p with
  | .d (.raw (.int .i64 n)) => i64B (-n)
  | _ => false
 | .indexAddr t p q => needIndex P t (σ.eval p) (σ.eval q)
 | .index _ p q => match σ.eval p, σ.eval q with
  | .d (.raw (.string s)), .d (.raw (.int _ i)) => decide (0 ≤ i) && decide (i < (s.size : Nat))
  | _, _ => false
 | .slice t p lo hi none => needSlice P t (σ.eval p) (lo.map σ.eval) (hi.map σ.eval)
 | .call c => needCall P σ c
 | .move _ | .assign _ | .pick _ _ _ | .alloc _ | .box _ _ | .convert _ _ _ | .extract _ _ | .field _ _ _ | .fieldAddr _ _ _ | .buildSlice _ _ _ | .build _ _ | .makeFunc _ _ _ | .nilCheck _ | .makeInterface _ _ => true
 | _ => false
end
end Go.Proofs.YtnjedgpidalioaaGreatDoor
