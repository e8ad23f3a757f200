/- Texts of this proof, part 25: what the proof uses of them. -/
import Derived.Test.YtnnolijagpakiaaGreatDoorVax
import Derived.Test.YtnnolijagpakiaaGreatDoorVan
import Derived.Test.YtnnolijagpakiaaGreatDoorVao
import Derived.Test.YtnnolijagpakiaaGreatDoorVaq
import Derived.Test.YtnnolijagpakiaaGreatDoorVav
import Derived.Test.YtnnolijagpakiaaGreatDoorVaw
namespace Go.Proofs.YtnnolijagpakiaaGreatDoor
section
open Go Go.RowKit
def encIs (l : List Int) : List (List D) := l.map fun p => [.raw (.int .i64 p)]
theorem encIs_length (l : List Int) : (encIs l).length = l.length := by simp [encIs]
theorem encIs_fit (l : List Int) : rowsFit 1 (encIs l) := by
 intro r hr
 obtain ⟨p, _, rfl⟩ := List.mem_map.1 hr
 exact ⟨rfl, fun x hx => by simp only [List.mem_singleton] at hx; subst hx; rfl⟩
theorem encDs_fit (l : List Dc) : rowsFit 11 (encDs l) := by
 intro r hr
 obtain ⟨p, _, rfl⟩ := List.mem_map.1 hr
 exact ⟨rfl, fun x hx => by
  simp only [encD, List.mem_cons, List.not_mem_nil, or_false] at hx
  rcases hx with rfl | rfl | rfl | rfl | rfl | rfl | rfl | rfl | rfl | rfl | rfl <;> rfl⟩
def plN (t : List LTok) (n : Nat) : Int := (t.length - n : Nat)
def encSr (t : List LTok) (x : Sr × List Nat) : AV := .tup [avS x.1, .d (.sl (encIs (x.2.map (plN t))))]
abbrev srZ : Blk := .cell 26 [.d nilD, .d nilD]
abbrev srSt (s : RS) (us : List ByteArray) (ds : List Dc) (ps : List Int) : St := ⟨[(0, .box 901 0), (2, .box 0 0), (3, .d nilD), (4, .box 1000 0), (5, .grow 97 (encIs ps))], [(901, some (rdBlk s)), (0, some srZ), (1000, some (.cell 26 [.grow 98 (encS us), .grow 99 (encDs ds)]))], (rdL s).toks ++ [(97, some ⟨1, 3, ps.length, none⟩), (98, some ⟨1, 9, us.length, none⟩), (99, some ⟨11, 57, ds.length, none⟩)]⟩
theorem pUses_t {f : Nat} {l r : List KT} (h : l = (1, wUse) :: r) : pUses (f + 1) l = (pUse r).bind fun s r => (pUses f r).bind fun us r => (some (s :: us), r) := by
 rw [h, pUses, if_pos (show ((1, wUse) :: r : List KT).head? = some (wd wUse) from rfl)]
 unfold pUse
 rw [bind_assoc]
 show (pLab r).bind _ = _
 congr 1
 funext s r
 rw [bind_assoc]; rfl
theorem pUses_f {f : Nat} {l : List KT} (h : l.head? ≠ some (1, wUse)) : pUses f l = (some [], l) := by
 cases f with
 | zero => rfl
 | succ f => rw [pUses, if_neg (show ¬ l.head? = some (wd wUse) from h)]
theorem pLab_le (l : List KT) : (pLab l).2.length ≤ l.length := by
 cases l with
 | nil => simp [pLab]
 | cons y r => rw [pLab]; split <;> simp
theorem pUse_le (l : List KT) : (pUse l).2.length ≤ l.length := bind_le (pLab_le l) fun _ r h => bind_le (Nat.le_trans (eat_le _ r) h) fun _ _ h => h
theorem pSide_le (l : List KT) : (pSide l).2.length ≤ l.length := by
 cases l with
 | nil => simp [pSide]
 | cons y r =>
  rw [pSide]; split
  ·simp
  ·exact pName_le _
theorem pNames_le (l : List KT) : (pNames l).2.length ≤ l.length := by
 refine bind_le (pSide_le l) fun a r h => ?_
 split
 ·exact h
 ·exact bind_le (Nat.le_trans (eat_le _ r) h) fun _ r h => bind_le (Nat.le_trans (pSide_le r) h) fun _ r h => bind_le (Nat.le_trans (eat_le _ r) h) fun _ r h => bind_le (Nat.le_trans (pSide_le r) h) fun _ _ h => h
theorem pId_le (l : List KT) : (pId l).2.length ≤ l.length := by
 rw [pId]; split
 ·cases l with
  | nil => rename_i h; cases h
  | cons y r =>
   rw [List.tail_cons]
   cases r with
   | nil => simp [pPos]
   | cons z q => rw [pPos]; split <;> simp <;> omega
 ·exact Nat.le_refl _
theorem pFlag_le (w : List UInt8) (l : List KT) : (pFlag w l).2.length ≤ l.length := by
 rw [pFlag]; split
 ·simp
 ·exact Nat.le_refl _
theorem pKind_len {l r : List KT} {k : Int} (h : pKind l = (some k, r)) : l.length = r.length + 1 := by
 cases l with
 | nil => cases h
 | cons y q =>
  rw [pKind] at h
  repeat' split at h
  all_goals first | (cases h; rfl) | cases h
theorem pDecl_len {f : Nat} {l r : List KT} {d : Dc × Nat} (h : pDecl f l = (some d, r)) : r.length < l.length := by
 unfold pDecl pBody at h
 obtain ⟨k, q, h1, h2⟩ := bind_some_eq h
 have e1 := pKind_len h1
 have e2 := pFlag_le wPub (pFlag wConflict l).2
 have e3 := pFlag_le wConflict l
 have e4 : ((pNames q).bind fun ns r2 => (pId r2).bind fun i r3 => (eatT (sg [61]) r3).bind fun _ r4 => (pE f r4).bind fun e r5 => (eatT (sg [59]) r5).bind fun _ r6 => ((some (⟨i, k, (pFlag wPub (pFlag wConflict l).2).1, ns, (pFlag wConflict l).1, e⟩, q.length), r6) : PR (Dc × Nat))).2.length ≤ q.length :=
  bind_le (pNames_le q) fun _ r h => bind_le (Nat.le_trans (pId_le r) h) fun _ r h => bind_le (Nat.le_trans (eat_le _ r) h) fun _ r h => bind_le (Nat.le_trans (pE_le f r) h) fun _ r h => bind_le (Nat.le_trans (eat_le _ r) h) fun _ _ h => h
 rw [h2] at e4
 simp only at e4
 omega
set_option maxRecDepth 100000 in
set_option maxHeartbeats 32000000 in
theorem source_r (hN : HN) (hM : HM) (hI : HI) (s : RS) (t : List LTok) (hS : Rdy s t) :
  ConL Tryz.prog 29 [.box 901 0] (rdL s) (PostR t (pSrc (t.length + 1) (restK s)) (encSr t)) := by
 have hfw := hS.few
 have hrl : ∀ {s1 : RS}, Rdy s1 t → (restK s1).length ≤ t.length := fun {s1} h => by unfold restK; rw [List.length_map, List.length_drop, h.toks]; omega
 refine conL_of [901] [910, 911, 912, 913] Tryz.func29 rfl (by decide +kernel) (by simp [Tryz.ntmps29]) fun A hA => ?_
 rw [Tryz.ntmps29] at hA
 refine goMid 300 [0, 2, 3] [901, 0] [910, 911, 912, 913] (fun σ => σ = (⟨[(0, .box 901 0), (2, .box 0 0), (3, .d nilD)], [(901, some (rdBlk s)), (0, some srZ)], (rdL s).toks⟩ : St)) (by simp only [go_sem, hA]) ?_
 rintro σ rfl
 refine goMid 300 [0, 2, 3, 4] [901, 0, 1000] [910, 911, 912, 913] (fun σ => σ = (⟨[(0, .box 901 0), (2, .box 0 0), (3, .d nilD), (4, .box 1000 0)], [(901, some (rdBlk s)), (0, some srZ), (1000, some srZ)], (rdL s).toks⟩ : St)) (by simp only [go_sem, hA]) ?_
 rintro σ rfl
 refine goMid 300 [0, 2, 3, 4, 5] [901, 0, 1000] [910, 911, 912, 913] (fun σ => σ = (⟨[(0, .box 901 0), (2, .box 0 0), (3, .d nilD), (4, .box 1000 0), (5, .d nilD)], [(901, some (rdBlk s)), (0, some srZ), (1000, some srZ)], (rdL s).toks⟩ : St)) (by simp only [go_sem, hA]) ?_
 rintro σ rfl
 refine satC_growTmp 97 5 1 3 (by simp only [go_sem]) rfl ?_
 refine satC_growCell 98 1000 0 1 9 (by simp only [go_sem]) rfl rfl ?_
 refine satC_growCell 99 1000 1 11 57 (by simp only [go_sem]) rfl rfl ?_
 refine goMid 100600 [0, 2, 3, 4, 5] [901, 0, 1000] [910, 911, 912, 913, 97, 98, 99] (fun σ => ∃ us s1, pUses (t.length + 1) (restK s) = (some us, restK s1) ∧ Rdy s1 t ∧ σ = srSt s1 us [] []) ?_ ?_
 ·simp only [go_sem]
  refine satC_loop [0, 2, 3, 4, 5] [901, 0, 1000] [910, 911, 912, 913, 97, 98, 99] (fun n σ => ∃ k us s1, n = (restK s1).length ∧ n < k ∧ us.length + n ≤ t.length ∧ pUses (t.length + 1) (restK s) = (pUses k (restK s1)).bind (fun vs r => (some (us ++ vs), r)) ∧ Rdy s1 t ∧ σ = srSt s1 us [] []) (restK s).length ⟨t.length + 1, [], s, rfl, by have := hrl hS; omega, by have := hrl hS; simpa using this, by
   cases h : pUses (t.length + 1) (restK s) with
   | mk a r => cases a <;> rfl, hS, by simp only [go_sem]; rfl⟩ ?_
  rintro n σ ⟨k, us, s1, rfl, hk, hus, hp, hS1, rfl⟩
  have hat := hS1.at_
  obtain ⟨k, rfl⟩ : ∃ k', k = k' + 1 := ⟨k - 1, by omega⟩
  refine goC 100600 ?_
  simp only [go_sem, hA]
  refine goCallL [901] [910, 911, 912, 913] 100600 (is_r s1 1 ⟨#[117, 115, 101]⟩) rfl rfl rfl rfl rfl (by simp only [go_sem, hA]) (fun res L' h => ?_) (fun pv h => by cases h)
  cases h
  cases b1 : isR s1 1 ⟨#[117, 115, 101]⟩ with
  | false =>
   rw [pUses_f (is_f (w := wUse) b1), PR.bind_some, List.append_nil] at hp
   simp only [go_sem]
   exact ⟨us, s1, hp, hS1, rfl⟩
  | true =>
   obtain ⟨x, h1, h2, h3⟩ := hS1.is_t (w := wUse) b1
   rw [pUses_t h2] at hp
   simp only [go_sem, hA]
   refine ⟨by unfold inI64; omega, ?_⟩
   refine goDrawnL 100600 mixed ?_
   refine dCall 3 [3, 4, 5, 6, 7] [901] [910, 911, 912, 913] (use_r (adv s1 1) t h3) [] rfl rfl rfl (by kernel_rfl) rfl (by simp only [go_sem]) (by kernel_rfl) (by simp only [go_sem, hA]) ?_
   simp only [go_sem, hA]
   refine ⟨by kernel_rfl, fun y L' h => ?_, fun pv h => ?_⟩
   rotate_left
   ·obtain ⟨r, e1, e2⟩ := h.pan
    subst e2
    exact ⟨_, rfl, by unfold pSrc; rw [hp, e1]; rfl⟩
   obtain ⟨u, s2, e1, rfl, rfl, hS2⟩ := h.ret
   rw [e1, PR.bind_some, bind_assoc] at hp
   have hle := pUse_le (restK (adv s1 1))
   rw [e1] at hle
   rw [h2, List.length_cons] at hk hus
   refine dFin ?_
   simp only [go_sem, hA]
   have hst : srSt s2 (us ++ [u]) [] [] = (⟨[(0, .box 901 0), (2, .box 0 0), (3, .d nilD), (4, .box 1000 0), (5, .grow 97 (encIs []))], [(901, some (rdBlk s2)), (0, some srZ), (1000, some (.cell 26 [.grow 98 (encS us ++ [[.raw (.string u)]]), .grow 99 (encDs [])]))], (rdL s2).toks ++ [(97, some ⟨1, 3, 0, none⟩), (98, some ⟨1, 9, us.length + 1, none⟩), (99, some ⟨11, 57, 0, none⟩)]⟩ : St) := by
    unfold srSt; rw [← encS_append, List.length_append]; rfl
   refine ⟨⟨encS_length us, encS_fit [u], encS_row us, by rw [encS_length]; omega⟩, by kernel_rfl, (restK s2).length, by rw [h2, List.length_cons]; simp only at hle; omega, k, us ++ [u], s2, rfl, by simp only at hle; omega, by rw [List.length_append, List.length_singleton]; simp only at hle; omega, ?_, hS2, hst.symm⟩
   rw [hp]
   congr 1
   funext vs r
   show (some (us ++ u :: vs), r) = _
   rw [List.append_assoc]; rfl
 rintro σ ⟨us, sU, hus, hSU, rfl⟩
 have hP : pSrc (t.length + 1) (restK s) = (pDecls (t.length + 1) (t.length + 1) (restK sU)).bind fun ds r => (some (⟨us, ds.map Prod.fst⟩, ds.map Prod.snd), r) := by unfold pSrc; rw [hus]; rfl
 rw [hP]
 refine goMid 100600 [0, 2, 3, 4, 5] [901, 0, 1000] [910, 911, 912, 913, 97, 98, 99] (fun σ => ∃ ds sV, pDecls (t.length + 1) (t.length + 1) (restK sU) = (some ds, restK sV) ∧ Rdy sV t ∧ σ = srSt sV us (ds.map Prod.fst) (ds.map fun d => plN t d.2)) ?_ ?_
 ·simp only [go_sem]
  refine satC_loop [0, 2, 3, 4, 5] [901, 0, 1000] [910, 911, 912, 913, 97, 98, 99] (fun n σ => ∃ k ds s1, n = (restK s1).length ∧ n ≤ k ∧ ds.length + n ≤ t.length ∧ pDecls (t.length + 1) (t.length + 1) (restK sU) = (pDecls (t.length + 1) k (restK s1)).bind (fun vs r => (some (ds ++ vs), r)) ∧ Rdy s1 t ∧ σ = srSt s1 us (ds.map Prod.fst) (ds.map fun d => plN t d.2)) (restK sU).length ⟨t.length + 1, [], sU, rfl, by have := hrl hSU; omega, by have := hrl hSU; simpa using this, by
   cases h : pDecls (t.length + 1) (t.length + 1) (restK sU) with
   | mk a r => cases a <;> rfl, hSU, by simp only [go_sem]; rfl⟩ ?_
  rintro n σ ⟨k, ds, s1, rfl, hk, hds, hp, hS1, rfl⟩
  have hat := hS1.at_
  have hpos := hS1.pos
  refine goC 100600 ?_
  simp only [go_sem]
  refine goDr 100600 mixed ?_
  rcases hS1.cases with ⟨h1, h2⟩ | ⟨x, h1, h2, h3⟩
  ·rw [h2] at hp
   have hlt : ¬ s1.at_ < s1.toks.length := fun h => by rw [List.getElem?_eq_getElem h] at h1; cases h1
   have d1 : decide ((s1.at_ : Int) < (s1.toks.length : Int)) = false := decide_eq_false (by omega)
   simp only [go_sem, hA, encTs_length, d1]
   refine ⟨by kernel_rfl, ds, s1, ?_, hS1, rfl⟩
   rw [hp, h2]
   cases k <;> (show (some (ds ++ []), []) = _; rw [List.append_nil])
  ·have hlt := (List.getElem?_eq_some_iff.1 h1).1
   have d1 : decide ((s1.at_ : Int) < (s1.toks.length : Int)) = true := decide_eq_true (by omega)
   obtain ⟨k, rfl⟩ : ∃ k', k = k' + 1 := ⟨k - 1, by rw [h2, List.length_cons] at hk; omega⟩
   simp only [go_sem, hA, encTs_length, d1]
   refine ⟨by kernel_rfl, ?_⟩
   have hpd : pDecls (t.length + 1) (k + 1) (restK s1) = (pDecl (t.length + 1) (restK s1)).bind fun d r => (pDecls (t.length + 1) k r).bind fun ds r => (some (d :: ds), r) := by rw [h2]; rfl
   rw [hpd] at hp
   refine goCallL [901] [910, 911, 912, 913] 44 (decl_r hN hM hI s1 t hS1) rfl rfl rfl rfl rfl (by simp only [go_sem, hA]) (fun res L' h => ?_) (fun pv h => ?_)
   rotate_left
   ·obtain ⟨r, e1, e2⟩ := h.pan
    subst e2
    exact ⟨_, rfl, by rw [hp, e1]; rfl⟩
   obtain ⟨d, s2, e1, rfl, rfl, hS2⟩ := h.ret
   rw [e1, PR.bind_some, bind_assoc] at hp
   have hlen := pDecl_len e1
   have hDl : (encDs (ds.map Prod.fst)).length = ds.length := by rw [encDs_length, List.length_map]
   have hIl : (encIs (ds.map fun d => plN t d.2)).length = ds.length := by rw [encIs_length, List.length_map]
   simp only [go_sem, hA, encDN, avD]
   refine goStep 300 (by simp only [go_sem]) (opOk_appendW (rows2 := encDs [d.1]) (k := ⟨11, 57, (ds.map Prod.fst).length, none⟩) rfl rfl rfl rfl rfl (by kernel_rfl) zero_57 (by kernel_rfl) (by rw [show Tryz.prog.cellsOf 57 = 11 by kernel_rfl]; decide) (by kernel_rfl) (by rw [show Tryz.prog.bytesOf 57 = 136 by kernel_rfl]; decide) (encDs_length _) (encDs_fit _) (fun r hr => (encDs_fit _ r hr).1) (by rw [hDl, encDs_length, List.length_singleton]; omega)) (by simp only [go_sem, hA]) ?_
   simp only [go_sem, hA]
   have hst : srSt s2 us ((ds ++ [d]).map Prod.fst) ((ds ++ [d]).map fun d => plN t d.2) = (⟨[(0, .box 901 0), (2, .box 0 0), (3, .d nilD), (4, .box 1000 0), (5, .grow 97 (encIs (ds.map fun d => plN t d.2) ++ [[.raw (.int .i64 (plN t d.2))]]))], [(901, some (rdBlk s2)), (0, some srZ), (1000, some (.cell 26 [.grow 98 (encS us), .grow 99 (encDs (ds.map Prod.fst) ++ encDs [d.1])]))], (rdL s2).toks ++ [(97, some ⟨1, 3, (ds.map fun d => plN t d.2).length + 1, none⟩), (98, some ⟨1, 9, us.length, none⟩), (99, some ⟨11, 57, (ds.map Prod.fst).length + (encDs [d.1]).length, none⟩)]⟩ : St) := by
    unfold srSt
    simp only [List.map_append, List.map_cons, List.map_nil, encDs, encIs, List.length_append, List.length_map, List.length_cons, List.length_nil]
   refine ⟨⟨by rw [encIs_length], encIs_fit [plN t d.2], fun r hr => (encIs_fit _ r hr).1, by rw [hIl]; omega⟩, (restK s2).length, hlen, k, ds ++ [d], s2, rfl, by omega, by rw [List.length_append, List.length_singleton]; omega, ?_, hS2, hst.symm⟩
   rw [hp]
   congr 1
   funext vs r
   show (some (ds ++ d :: vs), r) = _
   rw [List.append_assoc]; rfl
 rintro σ ⟨ds, sV, hds, hSV, rfl⟩
 rw [hds]
 refine goC 300 ?_
 simp only [go_sem, hA, Tryz.results29]
 exact ⟨_, rfl, rfl, sV, by unfold encSr; rw [List.map_map]; rfl, hSV, rfl⟩
end
section
open Go Go.RowKit
theorem bind_get {α β : Type} {x : PR α} {f : α → List KT → PR β} {b : β} {r : List KT} (h : x.bind f = (some b, r)) : ∃ a q, x = (some a, q) ∧ f a q = (some b, r) := by
 obtain ⟨o, q⟩ := x
 cases o with
 | none => cases h
 | some a => exact ⟨a, q, rfl, h⟩
def Few (pe : List KT → PR Ex) : Prop := ∀ l t r, pe l = (some t, r) → nodesE t + r.length ≤ l.length
theorem eat_few {x : KT} {l r : List KT} {u : Unit} (h : eatT x l = (some u, r)) : r.length + 1 = l.length := by
 cases l with
 | nil => cases h
 | cons y q => rw [eatT] at h; split at h <;> cases h; rfl
theorem name_few {l r : List KT} {u : ByteArray} (h : pName l = (some u, r)) : r.length + 1 = l.length := by
 cases l with
 | nil => cases h
 | cons y q => rw [pName] at h; split at h <;> cases h; rfl
theorem num_few {l r : List KT} {u : Int} (h : pNum l = (some u, r)) : r.length + 1 = l.length := by
 cases l with
 | nil => cases h
 | cons y q => rw [pNum] at h; split at h <;> cases h; rfl
theorem leaf_few : Few pLeaf := fun l t r h => by
 cases l with
 | nil => cases h
 | cons y q =>
  have hd : ∀ n t r, pDot n q = (some t, r) → nodesE t + r.length ≤ q.length + 1 := fun n t r h => by
   cases q with
   | nil => cases h; simp [nodesE, nodesL]
   | cons z q =>
    rw [pDot] at h
    split at h
    ·obtain ⟨m, s, h1, h2⟩ := bind_get h
     have := name_few h1
     cases h2
     simp only [nodesE, nodesL, List.length_cons]; omega
    ·cases h; simp only [nodesE, nodesL, List.length_cons]; omega
  rw [pLeaf] at h
  repeat' split at h
  all_goals first
   | (cases h; done)
   | (cases h; simp only [nodesE, nodesL, List.length_cons]; omega)
   | (have := hd _ _ _ h; rw [List.length_cons]; omega)
theorem tail_few {pe : List KT → PR Ex} (hf : Few pe) (a : Ex) (l : List KT) (t : Ex) (r : List KT) (h : pTail pe a l = (some t, r)) : nodesE t + r.length ≤ l.length + nodesE a + 1 := by
 cases l with
 | nil =>
  rw [pTail] at h
  obtain ⟨b, q, h1, h2⟩ := bind_get h
  have := hf _ _ _ h1
  cases h2
  simp only [nodesE, nodesL]; omega
 | cons z s =>
  rw [pTail] at h
  repeat' split at h
  all_goals
   obtain ⟨b, q, h1, h2⟩ := bind_get h
   have := hf _ _ _ h1
   cases h2
   simp only [nodesE, nodesL, List.length_cons] at this ⊢; omega
theorem in_few {pe : List KT → PR Ex} (hf : Few pe) (l : List KT) (t : Ex) (r : List KT) (h : pIn pe l = (some t, r)) : nodesE t + r.length ≤ l.length + 1 := by
 have hb : ∀ l : List KT, (pe l).bind (fun a r => pTail pe a r) = (some t, r) → nodesE t + r.length ≤ l.length + 1 := fun l h => by
  obtain ⟨b, q, h1, h2⟩ := bind_get h
  have h3 := hf _ _ _ h1
  have h4 := tail_few hf _ _ _ _ h2
  omega
 cases l with
 | nil => rw [pIn] at h; exact hb _ h
 | cons y s =>
  rw [pIn] at h
  split at h
  ·unfold pFun at h
   obtain ⟨n, q, h1, h⟩ := bind_get h
   obtain ⟨u, q2, h2, h⟩ := bind_get h
   obtain ⟨a, q3, h3, h⟩ := bind_get h
   have := name_few h1
   have := eat_few h2
   have := hf _ _ _ h3
   cases h
   simp only [nodesE, nodesL, List.length_cons]; omega
  split at h
  ·unfold pLet at h
   obtain ⟨n, q, h1, h⟩ := bind_get h
   obtain ⟨u, q2, h2, h⟩ := bind_get h
   obtain ⟨a, q3, h3, h⟩ := bind_get h
   obtain ⟨u4, q4, h4, h⟩ := bind_get h
   obtain ⟨b, q5, h5, h⟩ := bind_get h
   have := name_few h1
   have := eat_few h2
   have := hf _ _ _ h3
   have := eat_few h4
   have := hf _ _ _ h5
   cases h
   simp only [nodesE, nodesL, List.length_cons]; omega
  split at h
  ·unfold pIf at h
   obtain ⟨a, q1, h1, h⟩ := bind_get h
   obtain ⟨u2, q2, h2, h⟩ := bind_get h
   obtain ⟨b, q3, h3, h⟩ := bind_get h
   obtain ⟨u4, q4, h4, h⟩ := bind_get h
   obtain ⟨c, q5, h5, h⟩ := bind_get h
   have := hf _ _ _ h1
   have := eat_few h2
   have := hf _ _ _ h3
   have := eat_few h4
   have := hf _ _ _ h5
   cases h
   simp only [nodesE, nodesL, List.length_cons]; omega
  split at h
  ·unfold pCase at h
   obtain ⟨a, q1, h1, h⟩ := bind_get h
   obtain ⟨u2, q2, h2, h⟩ := bind_get h
   obtain ⟨u3, q3, h3, h⟩ := bind_get h
   obtain ⟨u4, q4, h4, h⟩ := bind_get h
   obtain ⟨b, q5, h5, h⟩ := bind_get h
   obtain ⟨u6, q6, h6, h⟩ := bind_get h
   obtain ⟨n, q7, h7, h⟩ := bind_get h
   obtain ⟨u8, q8, h8, h⟩ := bind_get h
   obtain ⟨m, q9, h9, h⟩ := bind_get h
   obtain ⟨u10, q10, h10, h⟩ := bind_get h
   obtain ⟨c, q11, h11, h⟩ := bind_get h
   have := hf _ _ _ h1
   have := eat_few h2
   have := eat_few h3
   have := eat_few h4
   have := hf _ _ _ h5
   have := eat_few h6
   have := name_few h7
   have := eat_few h8
   have := name_few h9
   have := eat_few h10
   have := hf _ _ _ h11
   cases h
   simp only [nodesE, nodesL, List.length_cons]; omega
  split at h
  ·unfold pChance at h
   obtain ⟨a, q1, h1, h⟩ := bind_get h
   obtain ⟨u2, q2, h2, h⟩ := bind_get h
   obtain ⟨b, q3, h3, h⟩ := bind_get h
   have := num_few h1
   have := eat_few h2
   have := num_few h3
   cases h
   simp only [nodesE, nodesL, List.length_cons]; omega
  split at h
  ·unfold pSum at h
   obtain ⟨a, q1, h1, h⟩ := bind_get h
   obtain ⟨u2, q2, h2, h⟩ := bind_get h
   obtain ⟨b, q3, h3, h⟩ := bind_get h
   obtain ⟨u4, q4, h4, h⟩ := bind_get h
   obtain ⟨c, q5, h5, h⟩ := bind_get h
   have := hf _ _ _ h1
   have := eat_few h2
   have := hf _ _ _ h3
   have := eat_few h4
   have := hf _ _ _ h5
   cases h
   simp only [nodesE, nodesL, List.length_cons]; omega
  ·exact hb _ h
theorem pE_few : ∀ f, Few (pE f)
 | 0 => fun l t r h => by cases h
 | f + 1 => fun l t r h => by
  cases l with
  | nil => cases h
  | cons y q =>
   rw [pE] at h
   split at h
   ·obtain ⟨e, q1, h1, h⟩ := bind_get h
    obtain ⟨u, q2, h2, h⟩ := bind_get h
    have := in_few (pE_few f) _ _ _ h1
    have := eat_few h2
    cases h
    simp only [List.length_cons]; omega
   ·exact leaf_few _ _ _ h
theorem decl_few {f : Nat} {l r : List KT} {d : Dc × Nat} (h : pDecl f l = (some d, r)) : nodesE d.1.body ≤ l.length := by
 unfold pDecl pBody at h
 obtain ⟨k, q1, h1, h⟩ := bind_get h
 obtain ⟨ns, q2, h2, h⟩ := bind_get h
 obtain ⟨i, q3, h3, h⟩ := bind_get h
 obtain ⟨u4, q4, h4, h⟩ := bind_get h
 obtain ⟨e, q5, h5, h⟩ := bind_get h
 obtain ⟨u6, q6, h6, h⟩ := bind_get h
 have e0 : (pFlag wPub (pFlag wConflict l).2).2.length ≤ l.length := by
  unfold pFlag
  repeat' split
  all_goals simp only [List.length_tail]
  all_goals omega
 have e1 : q1.length ≤ (pFlag wPub (pFlag wConflict l).2).2.length := by
  cases hl : (pFlag wPub (pFlag wConflict l).2).2 with
  | nil => rw [hl] at h1; cases h1
  | cons y q =>
   rw [hl, pKind] at h1
   repeat' split at h1
   all_goals first | (cases h1; simp) | cases h1
 have eS : ∀ {l r : List KT} {a : ByteArray}, pSide l = (some a, r) → r.length ≤ l.length := fun {l r a} h => by
  cases l with
  | nil => cases h
  | cons y q =>
   rw [pSide] at h
   split at h
   ·cases h; simp
   ·have := name_few h; omega
 have e2 : q2.length ≤ q1.length := by
  unfold pNames at h2
  obtain ⟨a, s1, g1, h2⟩ := bind_get h2
  have := eS g1
  split at h2
  ·cases h2; exact this
  ·obtain ⟨_, s2, g2, h2⟩ := bind_get h2
   obtain ⟨_, s3, g3, h2⟩ := bind_get h2
   obtain ⟨_, s4, g4, h2⟩ := bind_get h2
   obtain ⟨_, s5, g5, h2⟩ := bind_get h2
   have := eat_few g2
   have := eS g3
   have := eat_few g4
   have := eS g5
   cases h2
   omega
 have e3 : q3.length ≤ q2.length := by
  unfold pId at h3
  split at h3
  ·cases hq : q2.tail with
   | nil => rw [hq] at h3; cases h3
   | cons y s =>
    rw [hq, pPos] at h3
    have : (y :: s).length ≤ q2.length := by rw [← hq, List.length_tail]; omega
    split at h3
    ·cases h3; rw [List.length_cons] at this; omega
    ·cases h3
  ·cases h3; exact Nat.le_refl _
 have := eat_few h4
 have := pE_few f _ _ _ h5
 cases h
 simp only
 omega
theorem pSide_le2 (l : List KT) : (pSide l).2.length ≤ l.length := by
 cases l with
 | nil => simp [pSide]
 | cons y r =>
  rw [pSide]; split
  ·simp
  ·exact pName_le _
theorem pDecl_le (f : Nat) (l : List KT) : (pDecl f l).2.length ≤ l.length := by
 have e0 : (pFlag wPub (pFlag wConflict l).2).2.length ≤ l.length := by
  unfold pFlag
  repeat' split
  all_goals simp only [List.length_tail]
  all_goals omega
 refine Nat.le_trans ?_ e0
 unfold pDecl pBody
 refine bind_le ?_ fun k q1 h1 => bind_le (Nat.le_trans ?_ h1) fun ns q2 h2 => bind_le (Nat.le_trans ?_ h2) fun i q3 h3 => bind_le (Nat.le_trans (eat_le _ _) h3) fun _ q4 h4 => bind_le (Nat.le_trans (pE_le f _) h4) fun e q5 h5 => bind_le (Nat.le_trans (eat_le _ _) h5) fun _ q6 h6 => h6
 ·cases (pFlag wPub (pFlag wConflict l).2).2 with
  | nil => simp [pKind]
  | cons y q =>
   rw [pKind]
   repeat' split
   all_goals simp
 ·unfold pNames
  refine bind_le (pSide_le2 _) fun a s1 g1 => ?_
  split
  ·exact g1
  ·exact bind_le (Nat.le_trans (eat_le _ _) g1) fun _ _ g2 => bind_le (Nat.le_trans (pSide_le2 _) g2) fun _ _ g3 => bind_le (Nat.le_trans (eat_le _ _) g3) fun _ _ g4 => bind_le (Nat.le_trans (pSide_le2 _) g4) fun _ _ g5 => g5
 ·unfold pId
  split
  ·cases hq : q2.tail with
   | nil => simp [pPos]
   | cons y s =>
    have : (y :: s).length ≤ q2.length := by rw [← hq, List.length_tail]; omega
    rw [pPos]
    split
    ·rw [List.length_cons] at this; simp only; omega
    ·exact this
  ·exact Nat.le_refl _
theorem pUses_le : ∀ (f : Nat) (l : List KT), (pUses f l).2.length ≤ l.length
 | 0, l => Nat.le_refl _
 | f + 1, l => by
  rw [pUses]
  split
  ·have h1 : (pLab l.tail).2.length ≤ l.length := by
    have : l.tail.length ≤ l.length := by rw [List.length_tail]; omega
    cases hl : l.tail with
    | nil => simp [pLab]
    | cons y q =>
     rw [hl, List.length_cons] at this
     rw [pLab]
     split
     ·simp only; omega
     ·simp only [List.length_cons]; omega
   exact bind_le h1 fun _ _ h2 => bind_le (Nat.le_trans (eat_le _ _) h2) fun _ q h3 => bind_le (Nat.le_trans (pUses_le f q) h3) fun _ _ h4 => h4
  ·exact Nat.le_refl _
theorem decls_few (f : Nat) : ∀ (g : Nat) (l r : List KT) (ds : List (Dc × Nat)) (n : Nat), l.length ≤ n → pDecls f g l = (some ds, r) → ∀ d ∈ ds, nodesE d.1.body ≤ n
 | 0, [], r, ds, n, _, h => by
  cases h
  intro d hd; cases hd
 | _ + 1, [], r, ds, n, _, h => by
  cases h
  intro d hd; cases hd
 | 0, y :: l, r, ds, n, _, h => by cases h
 | g + 1, y :: l, r, ds, n, hn, h => by
  rw [pDecls] at h
  obtain ⟨d, q, h1, h⟩ := bind_get h
  obtain ⟨es, q2, h2, h⟩ := bind_get h
  cases h
  have h3 := decl_few h1
  have h4 : q.length ≤ n := by
   have h5 := pDecl_le f (y :: l)
   rw [h1] at h5
   exact Nat.le_trans h5 hn
  intro e he
  rcases List.mem_cons.1 he with rfl | he
  ·omega
  ·exact decls_few f g q r es n h4 h2 e he
theorem src_few {f : Nat} {l r : List KT} {x : Sr} {ps : List Nat} (h : pSrc f l = (some (x, ps), r)) : ∀ d ∈ x.decls, nodesE d.body ≤ l.length := by
 unfold pSrc at h
 obtain ⟨us, q, h1, h⟩ := bind_get h
 obtain ⟨ds, q2, h2, h⟩ := bind_get h
 cases h
 have h3 : q.length ≤ l.length := by
  have := pUses_le f l
  rw [h1] at this
  exact this
 intro d hd
 obtain ⟨e, he, rfl⟩ := List.mem_map.1 hd
 exact decls_few f f q r ds _ h3 h2 e he
end
section
open Go Go.RowKit
abbrev rs0 (t : List LTok) : RS := ⟨t, 0, ⟨0, 0, []⟩, ⟨0, 0, []⟩, ⟨0, 0, []⟩, ⟨0, 0, []⟩⟩
theorem rdy0 (t : List LTok) (h : t.length ≤ 1048576) : Rdy (rs0 t) t := ⟨rfl, Nat.zero_le _, h, ⟨⟨rfl, rfl⟩, ⟨rfl, rfl⟩, ⟨rfl, rfl⟩, ⟨rfl, rfl⟩⟩⟩
abbrev rBox : Blk := .cell 58 [.box 901 0]
abbrev srB (x : Sr) : Blk := .cell 26 [.d (.sl (encS x.uses)), .d (.sl (encDs x.decls))]
abbrev iZ : Blk := .cell 60 [.d nilD]
abbrev iB (t : List LTok) (ps : List Nat) : Blk := .cell 60 [.d (.sl (encIs (ps.map (plN t))))]
abbrev paL (s : RS) (b c : Blk) : Lent := ⟨[(901, some (rdBlk s)), (902, some rBox), (904, some b), (905, some c)], (rdL s).toks⟩
def postPa (t : List LTok) (x : PR (Sr × List Nat)) (o : Out) : Prop := match x with
 | (some y, r) => ∃ s', o = .ret (.tup []) (paL s' (srB y.1) (iB t y.2)) ∧ Rdy s' t ∧ restK s' = r
 | (none, r) => o = .pan (pvA (t.length - r.length))
set_option maxRecDepth 100000 in
set_option maxHeartbeats 8000000 in
theorem parse1_c (hN : HN) (hM : HM) (hI : HI) (s : RS) (t : List LTok) (hS : Rdy s t) :
  ConL Tryz.prog 28 [.box 902 0, .box 904 0, .box 905 0] (paL s srZ iZ) (postPa t (pSrc (t.length + 1) (restK s))) := by
 refine conL_of [901, 902, 904, 905] [910, 911, 912, 913] Tryz.func28 rfl (by decide +kernel) (by simp [Tryz.ntmps28]) fun A hA => ?_
 rw [Tryz.ntmps28] at hA
 refine goC 300 ?_
 simp only [go_sem, hA]
 refine goCallL [901] [910, 911, 912, 913] 300 (source_r hN hM hI s t hS) rfl rfl rfl rfl rfl (by simp only [go_sem, hA]) (fun res L' h => ?_) (fun pv h => ?_)
 rotate_left
 ·obtain ⟨r, e1, e2⟩ := h.pan
  subst e2
  exact ⟨_, rfl, by rw [e1]; rfl⟩
 obtain ⟨x, s', e1, rfl, rfl, hS'⟩ := h.ret
 simp only [go_sem, hA, encSr, avS, Tryz.results28]
 refine ⟨_, rfl, rfl, ?_⟩
 rw [e1]
 exact ⟨s', rfl, hS', rfl⟩
end
section
open Go Go.RowKit
theorem ba_inj' {a b : ByteArray} (h : a.data.toList = b.data.toList) : a = b := by
 apply ByteArray.ext; apply Array.ext'; exact h
theorem extract_extract0' (s : ByteArray) (k n : Nat) (_h : k + n ≤ s.size) : (s.extract k s.size).extract 0 n = s.extract k (k + n) := by
 apply ba_inj'
 rw [extract_list, extract_end, extract_list, List.drop_zero, Nat.sub_zero, show k + n - k = n by omega]
theorem skip_c (s : ByteArray) (hs : s.size ≤ 65536) : Con Tryz.prog 49 [.d (.raw (.string s))] (.d (.raw (.int .i64 (skipL s.data.toList)))) :=
 con_s1 ⟨_, Tryz.func49, by decide +kernel, rfl⟩ fun w => (skip_any s w (by unfold maxLen; omega)).mono fun e w' h => ⟨h.1, h.2 ▸ Below.refl _ _⟩
theorem next_c (s : ByteArray) (hs : s.size ≤ 65536) (h0 : 0 < s.size) : Con Tryz.prog 50 [.d (.raw (.string s))] (.tup [.agg [.d (.raw (.int .i64 (nextL s.data.toList).1)), .d (.raw (.string (s.extract 0 (nextL s.data.toList).2))), .d (.raw (.int .i64 0))], .d (.raw (.bool (okNext s.data.toList)))]) := by
 refine ⟨⟨_, Tryz.func50, by decide +kernel, rfl⟩, rfl, fun F w vs hF _ hl hv => ?_⟩
 match vs, hl with
 | [v], _ =>
  have h := hv 0 (by simp) (by simp)
  simp only [List.getElem_cons_zero] at h
  unfold HasC at h
  rw [h.raw_eq]
  refine (next_any s w (by unfold maxLen; omega) h0).mono fun e w' h' => ⟨_, h'.1, ?_, h'.2⟩
  refine .tup _ [_, _] rfl fun i hi hv => ?_
  match i, hi with
  | 0, _ =>
   refine .agg _ [_, _, _] rfl fun i hi hv => ?_
   match i, hi with
   | 0, _ => exact .d (.raw _)
   | 1, _ => exact .d (.raw _)
   | 2, _ => exact .d (.raw _)
  | 1, _ => exact .d (.raw _)
def scanX (s : ByteArray) : List LTok × Int × Int :=
 if 65536 < s.size then ([], 0, 4) else match (scanAll s.data.toList).2 with
  | none => ((scanAll s.data.toList).1, 0, 0)
  | some p => ([], p, 3)
abbrev scSt (s : ByteArray) (k : Nat) (ts : List LTok) : St := ⟨[(0, .d (.raw (.string s))), (5, .grow 99 (encTs ts)), (6, .d (.raw (.int .i64 k)))], [], [(99, some ⟨3, 43, ts.length, none⟩)]⟩
set_option maxRecDepth 100000 in
set_option maxHeartbeats 8000000 in
theorem scan_c (s : ByteArray) : Con Tryz.prog 23 [.d (.raw (.string s))] (.tup [.d (.sl (encTs (scanX s).1)), .d (.raw (.int .i64 (scanX s).2.1)), .d (.raw (.int .i64 (scanX s).2.2))]) := by
 refine con_of Tryz.func23 rfl (by decide +kernel) rfl rfl (by simp [Tryz.ntmps23]) fun A hA => ?_
 rw [Tryz.ntmps23] at hA
 refine goC 300 ?_
 by_cases hb : 65536 < s.size
 ·have g0 : decide ((65536 : Int) < (s.size : Int)) = true := decide_eq_true (by omega)
  have hx : scanX s = ([], 0, 4) := if_pos hb
  simp only [go_sem, hA, g0, hx, Tryz.results23]
  rfl
 have g0 : decide ((65536 : Int) < (s.size : Int)) = false := decide_eq_false (by omega)
 have hsl : s.data.toList.length = s.size := rfl
 have hk0 := skipL_le s.data.toList
 have csk := skip_c s (by omega)
 simp only [go_sem, hA, g0]
 refine goCall 300 csk rfl (by simp only [go_sem]) (by simp only [go_sem, hA]) ?_
 simp only [go_sem, hA]
 refine satC_growTmp 99 5 3 43 (by rfl) (by rfl) ?_
 refine satC_loop [0, 5, 6] [] [99] (fun y σ => ∃ k f acc, k ≤ s.size ∧ s.size - k < f ∧ acc.length ≤ k ∧ scanT f (s.data.toList.drop k) k acc = scanAll s.data.toList ∧ y = s.size - k ∧ σ = scSt s k acc) (s.size - skipL s.data.toList) ⟨skipL s.data.toList, s.size + 1, [], by omega, by omega, Nat.zero_le _, by unfold scanAll; rw [hsl], rfl, by simp only [go_sem, scSt]; rfl⟩ ?_
 rintro y σ ⟨k, f, acc, hk, hf, hacc, hS, rfl, rfl⟩
 refine goC 300 ?_
 by_cases hlt : k < s.size
 case neg =>
  have k1 : decide ((k : Int) < (s.size : Int)) = false := decide_eq_false (by omega)
  have hr : scanAll s.data.toList = (acc, none) := by rw [← hS]; exact scanT_end (by simp; omega)
  have hx : scanX s = (acc, 0, 0) := by unfold scanX; rw [if_neg hb, hr]
  simp only [go_sem, hA, scSt, k1, hx, Tryz.results23]
 have k1 : decide ((k : Int) < (s.size : Int)) = true := decide_eq_true (by omega)
 obtain ⟨g, rfl⟩ : ∃ g, f = g + 1 := ⟨f - 1, by omega⟩
 have hdl : (s.extract k s.size).data.toList = s.data.toList.drop k := extract_end s k
 have hsz : (s.extract k s.size).size = s.size - k := by simp
 have hrl : (s.data.toList.drop k).length = s.size - k := by rw [List.length_drop, hsl]
 have cn := next_c (s.extract k s.size) (by omega) (by omega)
 rw [hdl] at cn
 obtain ⟨n, hn⟩ : ∃ n, (nextL (s.data.toList.drop k)).2 = n := ⟨_, rfl⟩
 obtain ⟨kd, hkd⟩ : ∃ kd, (nextL (s.data.toList.drop k)).1 = kd := ⟨_, rfl⟩
 have hnle : n ≤ s.size - k := by rw [← hn, ← hrl]; exact nextL_le _ (by omega)
 rw [hn, hkd, extract_extract0' s k n (by omega)] at cn
 cases ho : okNext (s.data.toList.drop k) with
 | false =>
  have hr : scanAll s.data.toList = ([], some k) := by rw [← hS]; exact scanT_err (by omega) ho
  have hx : scanX s = ([], (k : Int), 3) := by unfold scanX; rw [if_neg hb, hr]
  rw [ho] at cn
  simp only [go_sem, hA, scSt, k1]
  refine ⟨⟨by omega, by omega, by omega⟩, ?_⟩
  refine goCall 300 cn rfl (by simp only [go_sem, Int.toNat_natCast]) (by simp only [go_sem, hA]) ?_
  simp only [go_sem, hA, hx, Tryz.results23]
  rfl
 | true =>
  have hn0 : 0 < n := by rw [← hn]; exact okNext_pos ho
  have hadv : advL (s.data.toList.drop k) = n + skipL (s.data.toList.drop (k + n)) := by unfold advL; rw [hn, List.drop_drop]
  have hal := advL_le (s.data.toList.drop k) (by omega)
  have hst := scanT_step (f := g) (p := k) (acc := acc) (by omega) ho
  rw [hst, hadv, List.drop_drop] at hS
  have htok : tokL (s.data.toList.drop k) k = ⟨kd, (s.data.toList.drop k).take n, k⟩ := by unfold tokL; rw [hkd, hn]
  have hdl2 : (s.extract (k + n) s.size).data.toList = s.data.toList.drop (k + n) := extract_end s (k + n)
  have csk2 := skip_c (s.extract (k + n) s.size) (by simp; omega)
  rw [hdl2] at csk2
  obtain ⟨m, hm⟩ : ∃ m, skipL (s.data.toList.drop (k + n)) = m := ⟨_, rfl⟩
  rw [hadv, hrl, hm] at hal
  rw [hm, htok] at hS
  rw [hm] at csk2
  have htx : (⟨((s.data.toList.drop k).take n).toArray⟩ : ByteArray) = s.extract k (k + n) := by
   apply ba_inj'
   rw [extract_list]; simp
  have hzs : (s.extract k (k + n)).size = n := by simp; omega
  have hfit : rowsFit 3 [[D.raw (.int .i64 kd), .raw (.string (s.extract k (k + n))), .raw (.int .i64 k)]] := by
   have := encTs_fit [⟨kd, (s.data.toList.drop k).take n, k⟩]
   simpa only [encTs, encT, List.map_cons, List.map_nil, htx] using this
  rw [ho] at cn
  simp only [go_sem, hA, scSt, k1]
  refine ⟨⟨by omega, by omega, by omega⟩, ?_⟩
  refine goCall 300 cn rfl (by simp only [go_sem, Int.toNat_natCast]) (by simp only [go_sem, hA]) ?_
  simp only [go_sem, hA, encTs_length, hzs]
  have hkn : ((k : Int) + (n : Int)).toNat = k + n := by omega
  refine ⟨⟨hfit, encTs_row _, by omega⟩, by unfold inI64; omega, ⟨by omega, by omega, by omega⟩, ?_⟩
  simp only [hkn]
  refine goCall 300 csk2 rfl (by simp only [go_sem, Int.toNat_natCast]) (by simp only [go_sem, hA]) ?_
  simp only [go_sem, hA]
  refine ⟨by unfold inI64; omega, s.size - (k + n + m), by omega, k + n + m, g, acc ++ [⟨kd, (s.data.toList.drop k).take n, k⟩], by omega, by omega, by simp; omega, by rw [← hS, show k + (n + m) = k + n + m by omega], rfl, ?_⟩
  have he : encTs (acc ++ [⟨kd, (s.data.toList.drop k).take n, k⟩]) = encTs acc ++ [[.raw (.int .i64 kd), .raw (.string (s.extract k (k + n))), .raw (.int .i64 k)]] := by
   simp [encTs, encT, htx]
  rw [he]
  simp only [List.length_append, List.length_singleton]
  rfl
end
section
open Go Go.RowKit
abbrev sr0 : Sr := ⟨[], []⟩
def usesBad (l : List ByteArray) (q : Nat) : Int := if 0 < q ∧ ltS (atB l (q - 1)) (atB l q) = false then 1 else 0
def placeX (l : List Dc) : Int := firstN (fun q => if misplaced l q then (q : Int) else 0) l.length
def unordX (x : Sr) : Int := if ¬ firstN (usesBad x.uses) x.uses.length = 0 then -1 else if placeX x.decls = 0 then -1 else placeX x.decls
def posT (t : List LTok) (i : Nat) : Int := (t.getD i ⟨0, [], 0⟩).pos
def parseP (s : ByteArray) : Sr × Int × Int :=
 if ¬ (scanX s).2.2 = 0 then (sr0, (scanX s).2.1, (scanX s).2.2) else
 match pSrc ((scanX s).1.length + 1) ((scanX s).1.map kt) with
 | (none, r) => (sr0, if r.length = 0 then (s.size : Int) else posT (scanX s).1 ((scanX s).1.length - r.length), 3)
 | (some x, _) => if srcX sdeclX x.1 = 0 then (x.1, 0, 0) else if srcX sdeclX x.1 = 10 ∧ 0 ≤ unordX x.1 then (sr0, posT (scanX s).1 ((scanX s).1.length - x.2.getD (unordX x.1).toNat 0), 10) else (sr0, 0, srcX sdeclX x.1)
theorem scanT_bound : ∀ (f : Nat) (r : List UInt8) (p : Nat) (acc ts : List LTok) (e : Option Nat), scanT f r p acc = (ts, e) → ts.length ≤ acc.length + r.length ∧ (∀ x ∈ ts, x ∈ acc ∨ ∃ q : Nat, x.pos = q ∧ q ≤ p + r.length) ∧ ∀ q, e = some q → q ≤ p + r.length
 | 0, r, p, acc, ts, e, h => by
  cases h
  exact ⟨by omega, fun x hx => .inl hx, fun q h => (by cases h)⟩
 | f + 1, r, p, acc, ts, e, h => by
  rcases Nat.eq_zero_or_pos r.length with h0 | h0
  ·rw [scanT_end h0] at h
   cases h
   exact ⟨by omega, fun x hx => .inl hx, fun q h => (by cases h)⟩
  ·cases ho : okNext r with
   | false =>
    rw [scanT_err h0 ho] at h
    cases h
    exact ⟨Nat.zero_le _, fun x hx => (by cases hx), fun q h => (by cases h; omega)⟩
   | true =>
    rw [scanT_step h0 ho] at h
    obtain ⟨h1, h2, h3⟩ := scanT_bound f _ _ _ _ _ h
    have h4 := advL_le r h0
    have h5 := okNext_pos ho
    have h6 : 0 < advL r := by unfold advL; omega
    have h7 : (r.drop (advL r)).length = r.length - advL r := List.length_drop
    rw [List.length_append, List.length_singleton] at h1
    refine ⟨by omega, fun x hx => ?_, fun q hq => by have := h3 q hq; omega⟩
    rcases h2 x hx with h2 | ⟨q, e1, e2⟩
    ·rcases List.mem_append.1 h2 with h2 | h2
     ·exact .inl h2
     ·obtain rfl := List.mem_singleton.1 h2
      exact .inr ⟨p, rfl, by omega⟩
    ·exact .inr ⟨q, e1, by omega⟩
theorem scan_bound (s : ByteArray) : (scanX s).1.length ≤ 65536 ∧ (scanX s).1.length ≤ s.size ∧ (∀ x ∈ (scanX s).1, 0 ≤ x.pos ∧ x.pos ≤ s.size) ∧ 0 ≤ (scanX s).2.1 ∧ (scanX s).2.1 ≤ s.size ∧ (¬ (scanX s).2.2 = 0 → (scanX s).1 = []) := by
 unfold scanX
 split
 ·exact ⟨Nat.zero_le _, Nat.zero_le _, fun x hx => (by cases hx), Int.le_refl _, by simp only; omega, fun _ => rfl⟩
 ·rename_i hs
  cases h : scanAll s.data.toList with
  | mk ts e =>
   have h1 := skipL_le s.data.toList
   have h2 : s.data.toList.length = s.size := rfl
   have h3 : (s.data.toList.drop (skipL s.data.toList)).length = s.data.toList.length - skipL s.data.toList := List.length_drop
   obtain ⟨b1, b2, b3⟩ := scanT_bound _ _ _ _ _ _ h
   rw [List.length_nil] at b1
   have b4 : ∀ x ∈ ts, 0 ≤ x.pos ∧ x.pos ≤ s.size := fun x hx => by
    rcases b2 x hx with h | ⟨q, e1, e2⟩
    ·cases h
    ·omega
   cases e with
   | none => exact ⟨by simp only; omega, by simp only; omega, b4, Int.le_refl _, by simp only; omega, fun h => absurd rfl h⟩
   | some q =>
    have := b3 q rfl
    exact ⟨Nat.zero_le _, Nat.zero_le _, fun x hx => (by cases hx), by simp only; omega, by simp only; omega, fun _ => rfl⟩
theorem kind_few {l r : List KT} {k : Int} (h : pKind l = (some k, r)) : r.length + 1 = l.length := by
 cases l with
 | nil => cases h
 | cons y q =>
  rw [pKind] at h
  repeat' split at h
  all_goals first | (cases h; rfl) | cases h
theorem decl_at {f : Nat} {l r : List KT} {x : Dc} {n : Nat} (h : pDecl f l = (some (x, n), r)) : 0 < n ∧ n < l.length := by
 unfold pDecl pBody at h
 obtain ⟨k, q1, h1, h⟩ := bind_get h
 obtain ⟨ns, q2, h2, h⟩ := bind_get h
 obtain ⟨i, q3, h3, h⟩ := bind_get h
 obtain ⟨u4, q4, h4, h⟩ := bind_get h
 obtain ⟨e, q5, h5, h⟩ := bind_get h
 obtain ⟨u6, q6, h6, h⟩ := bind_get h
 have e0 : (pFlag wPub (pFlag wConflict l).2).2.length ≤ l.length := by
  unfold pFlag
  repeat' split
  all_goals simp only [List.length_tail]
  all_goals omega
 have e1 := kind_few h1
 cases h
 refine ⟨?_, by omega⟩
 cases q1 with
 | nil =>
  have : pNames [] = (none, []) := rfl
  rw [this] at h2; cases h2
 | cons y q => simp
theorem decls_at (f : Nat) : ∀ (g : Nat) (l r : List KT) (ds : List (Dc × Nat)) (n : Nat), l.length ≤ n → pDecls f g l = (some ds, r) → ∀ d ∈ ds, 0 < d.2 ∧ d.2 < n
 | 0, [], r, ds, n, _, h => by
  cases h
  intro d hd; cases hd
 | _ + 1, [], r, ds, n, _, h => by
  cases h
  intro d hd; cases hd
 | 0, y :: l, r, ds, n, _, h => by cases h
 | g + 1, y :: l, r, ds, n, hn, h => by
  rw [pDecls] at h
  obtain ⟨d, q, h1, h⟩ := bind_get h
  obtain ⟨es, q2, h2, h⟩ := bind_get h
  cases h
  obtain ⟨x, k⟩ := d
  have h3 := decl_at h1
  have h4 : q.length ≤ n := by
   have h5 := pDecl_le f (y :: l)
   rw [h1] at h5
   exact Nat.le_trans h5 hn
  intro e he
  rcases List.mem_cons.1 he with rfl | he
  ·exact ⟨h3.1, by simp only; omega⟩
  ·exact decls_at f g q r es n h4 h2 e he
theorem src_at {f : Nat} {l r : List KT} {x : Sr} {ps : List Nat} (h : pSrc f l = (some (x, ps), r)) : ps.length = x.decls.length ∧ ∀ n ∈ ps, 0 < n ∧ n < l.length := by
 unfold pSrc at h
 obtain ⟨us, q, h1, h⟩ := bind_get h
 obtain ⟨ds, q2, h2, h⟩ := bind_get h
 cases h
 have h3 : q.length ≤ l.length := by
  have := pUses_le f l
  rw [h1] at this
  exact this
 refine ⟨by simp, fun n hn => ?_⟩
 obtain ⟨e, he, rfl⟩ := List.mem_map.1 hn
 exact decls_at f f q r ds _ h3 h2 e he
theorem place_lt (l : List Dc) : 0 ≤ placeX l ∧ (¬ placeX l = 0 → placeX l < l.length) := by
 have key : ∀ n : Nat, 0 ≤ firstN (fun q => if misplaced l q then (q : Int) else 0) n ∧ (¬ firstN (fun q => if misplaced l q then (q : Int) else 0) n = 0 → firstN (fun q => if misplaced l q then (q : Int) else 0) n < n) := by
  intro n
  induction n with
  | zero => exact ⟨Int.le_refl _, fun h => absurd rfl h⟩
  | succ n ih =>
   rw [firstN]
   by_cases h : firstN (fun q => if misplaced l q then (q : Int) else 0) n = 0
   ·rw [if_pos h]
    split
    ·exact ⟨by omega, fun _ => by omega⟩
    ·exact ⟨Int.le_refl _, fun h => absurd rfl h⟩
   ·rw [if_neg h]
    exact ⟨ih.1, fun h2 => by have := ih.2 h; omega⟩
 exact key _
theorem unord_lt (x : Sr) : -1 ≤ unordX x ∧ (0 ≤ unordX x → 0 < unordX x ∧ unordX x < x.decls.length) := by
 obtain ⟨h1, h2⟩ := place_lt x.decls
 unfold unordX
 split
 ·exact ⟨Int.le_refl _, fun h => by omega⟩
 ·split
  ·exact ⟨Int.le_refl _, fun h => by omega⟩
  ·rename_i h
   have := h2 h
   exact ⟨by omega, fun _ => ⟨by omega, this⟩⟩
end
section
open Go Go.RowKit
theorem avE_ex0 : avE (.mk 0 ⟨#[]⟩ ⟨#[]⟩ 0 0 []) = .agg [.d (.raw (.int .i64 0)), .d (.raw (.string ⟨#[]⟩)), .d (.raw (.string ⟨#[]⟩)), .d (.raw (.int .i64 0)), .d (.raw (.int .i64 0)), .d (.sl [])] := by rw [avE_eq]; rfl
theorem ne30 : (decide ¬(3 : Int) = 0) = true := rfl
end
section
open Go Go.RowKit
def SP (t : List LTok) (N : Nat) {α : Type} (g : Cur → α × Cur) : Prop := ∀ c, Sit t c → c.1.length < N → Sit t (g c).2 ∧ (g c).2.1.length ≤ c.1.length
section
variable {t : List LTok} {N : Nat} {α β : Type}
theorem SP.cb {f : Cur → α × Cur} {g : α → Cur → β × Cur} (h : SP t N f) (hg : ∀ a, SP t N (g a)) : SP t N fun c => cb (f c) g := fun c hc hN => by
 obtain ⟨h1, h2⟩ := h c hc hN
 obtain ⟨h3, h4⟩ := hg (f c).1 _ h1 (by omega)
 exact ⟨h3, Nat.le_trans h4 h2⟩
theorem SP.ret (a : α) : SP t N fun c => (a, c) := fun _ h _ => ⟨h, Nat.le_refl _⟩
theorem SP.eat (x : KT) : SP t N (cEat x) := fun _ h _ => (next_kt h _).2
theorem SP.name : SP t N cName := fun _ h _ => name_sit h
theorem SP.num : SP t N cNum := fun _ h _ => num_sit h
theorem SP.nxt {f : Cur → α × Cur} (h : SP t N f) : SP t N fun c => f (cNext true c) := fun c hc hN => by
 obtain ⟨_, h1, h2⟩ := next_kt hc true
 obtain ⟨h3, h4⟩ := h _ h1 (by omega)
 exact ⟨h3, Nat.le_trans h4 h2⟩
variable {pe : Cur → Ex × Cur}
theorem sp_fun (h : SP t N pe) : SP t N (cFun pe) := SP.name.cb fun _ => (SP.eat _).cb fun _ => h.cb fun _ => SP.ret _
theorem sp_let (h : SP t N pe) : SP t N (cLet pe) := SP.name.cb fun _ => (SP.eat _).cb fun _ => h.cb fun _ => (SP.eat _).cb fun _ => h.cb fun _ => SP.ret _
theorem sp_if (h : SP t N pe) : SP t N (cIf pe) := h.cb fun _ => (SP.eat _).cb fun _ => h.cb fun _ => (SP.eat _).cb fun _ => h.cb fun _ => SP.ret _
theorem sp_case (h : SP t N pe) : SP t N (cCase pe) := h.cb fun _ => (SP.eat _).cb fun _ => (SP.eat _).cb fun _ => (SP.eat _).cb fun _ => h.cb fun _ => (SP.eat _).cb fun _ => SP.name.cb fun _ => (SP.eat _).cb fun _ => SP.name.cb fun _ => (SP.eat _).cb fun _ => h.cb fun _ => SP.ret _
theorem sp_chance : SP t N cChance := SP.num.cb fun _ => (SP.eat _).cb fun _ => SP.num.cb fun _ => SP.ret _
theorem sp_sum (h : SP t N pe) : SP t N (cSum pe) := h.cb fun _ => (SP.eat _).cb fun _ => h.cb fun _ => (SP.eat _).cb fun _ => h.cb fun _ => SP.ret _
theorem sp_tail (h : SP t N pe) (a : Ex) : SP t N (cTail pe a) := fun c hc hN => by
 have h1 := h c hc hN
 have h2 := (SP.nxt h) c hc hN
 unfold cTail cb
 split
 ·exact h2
 ·split
  ·exact h2
  ·exact h1
theorem sp_in (h : SP t N pe) : SP t N (cIn pe) := fun c hc hN => by
 unfold cIn
 repeat' split
 ·exact (SP.nxt (sp_fun h)) c hc hN
 ·exact (SP.nxt (sp_let h)) c hc hN
 ·exact (SP.nxt (sp_if h)) c hc hN
 ·exact (SP.nxt (sp_case h)) c hc hN
 ·exact (SP.nxt sp_chance) c hc hN
 ·exact (SP.nxt (sp_sum h)) c hc hN
 ·exact (h.cb fun a => sp_tail h a) c hc hN
end
theorem open_short {c : Cur} (h : cTok c = sg [40]) : (cNext true c).1.length + 1 = c.1.length := by
 obtain ⟨l, b⟩ := c
 cases b with
 | true => rw [cTok_bad] at h; cases h
 | false =>
  cases l with
  | nil => rw [cTok_nil] at h; cases h
  | cons y r => rfl
set_option maxRecDepth 100000 in
set_option maxHeartbeats 16000000 in
theorem cexpr (t : List LTok) : ∀ f, SubOK t (rE f) f
 | 0 => fun c _ hN => absurd hN (Nat.not_lt_zero _)
 | f + 1 => fun c h hN => by
  have hp := cexpr t f
  have hsp : SP t f (rE f) := fun c hc hN => (hp c hc hN).2
  have hE : rE (f + 1) c = if c.2 then (ex0, c) else if cTok c = sg [40] then ((cIn (rE f) (cNext true c)).1, skipX [⟨#[41]⟩] (cIn (rE f) (cNext true c)).2) else cLeaf c := rfl
  have cl := cleaf h
  have sl := leaf_sit h
  have w1 : Con Tryz.prog 85 [avX t c, .d (.raw (.string ⟨#[40]⟩))] (.d (.raw (.bool (decide (cTok c = sg [40]))))) := csign h ⟨#[40]⟩
  have cx := cnext h true
  obtain ⟨_, s1, l1⟩ := next_kt h true
  obtain ⟨l, b⟩ := c
  cases b with
  | true =>
   rw [if_pos rfl] at hE
   rw [hE]
   refine ⟨?_, h, Nat.le_refl _⟩
   refine con_of Tryz.func41 rfl (by decide +kernel) (by rw [avE_ex0]; rfl) rfl (by simp [Tryz.ntmps41]) fun A hA => ?_
   rw [Tryz.ntmps41] at hA
   refine goC 400 ?_
   simp only [go_sem, hA, avE_ex0, mixed, Tryz.results41]
   show chk _ _ _ = true
   kernel_rfl
  | false =>
   rw [if_neg (by simp)] at hE
   by_cases e1 : cTok (l, false) = sg [40]
   ·have k1 : decide (cTok (l, false) = sg [40]) = true := decide_eq_true e1
    have hsh := open_short e1
    rw [if_pos e1] at hE
    have hlt : (cNext true (l, false)).1.length < f := by simp only at hN hsh ⊢; omega
    have ci := cinside hp s1 hlt
    have si := sp_in hsp _ s1 hlt
    generalize rE (f + 1) (l, false) = R at hE ⊢
    generalize (cIn (rE f) (cNext true (l, false))).1 = e at ci hE
    generalize (cIn (rE f) (cNext true (l, false))).2 = d at ci si hE
    have q2 := cskip si.1 [⟨#[41]⟩] (by decide) (by decide)
    have z2 := skipX_sit [⟨#[41]⟩] d si.1
    generalize skipX [⟨#[41]⟩] d = d2 at q2 z2 hE
    subst hE
    refine ⟨?_, z2.1, Nat.le_trans z2.2 (Nat.le_trans si.2 l1)⟩
    refine con_of Tryz.func41 rfl (by decide +kernel) (by rw [avE_eq]; rfl) rfl (by simp [Tryz.ntmps41]) fun A hA => ?_
    rw [Tryz.ntmps41] at hA
    refine goC 400 ?_
    simp only [go_sem, hA]
    refine goCall 400 w1 rfl (by simp only [go_sem]) (by simp only [go_sem, hA]) ?_
    simp only [go_sem, hA, k1]
    refine goCall 400 cx rfl (by simp only [go_sem]) (by simp only [go_sem, hA]) ?_
    simp only [go_sem]
    refine goCall 400 ci rfl (by simp only [go_sem]) (by simp only [go_sem, hA]) ?_
    simp only [go_sem, hA, avE_eq, mixed]
    refine goCallD 400 q2 rfl (by simp only [go_sem, encS, List.map_cons, List.map_nil]) (by simp only [go_sem, hA]) ?_
    simp only [go_sem, Tryz.results41]
    show chk _ _ _ = true
    kernel_rfl
   ·have k1 : decide (cTok (l, false) = sg [40]) = false := decide_eq_false e1
    rw [if_neg e1] at hE
    rw [hE]
    refine ⟨?_, sl⟩
    refine con_of Tryz.func41 rfl (by decide +kernel) (by rw [avE_eq]; rfl) rfl (by simp [Tryz.ntmps41]) fun A hA => ?_
    rw [Tryz.ntmps41] at hA
    refine goC 400 ?_
    simp only [go_sem, hA]
    refine goCall 400 w1 rfl (by simp only [go_sem]) (by simp only [go_sem, hA]) ?_
    simp only [go_sem, hA, k1]
    refine goCall 400 cl rfl (by simp only [go_sem]) (by simp only [go_sem, hA]) ?_
    simp only [go_sem, hA, avE_eq, Tryz.results41]
end
section
open Go Go.RowKit
theorem avS0 : avS ⟨[], []⟩ = .agg [.d (.sl []), .d (.sl [])] := rfl
end
section
open Go Go.RowKit
abbrev un1St (x : Sr) (q : Nat) : St := ⟨[(1, .box 0 0), (2, .d (.raw (.int .i64 0))), (3, .d (.raw (.int .i64 q)))], [(0, some (srB x))], []⟩
abbrev un2St (x : Sr) (q : Nat) : St := ⟨[(1, .box 0 0), (2, .d (.raw (.int .i64 0))), (4, .d (.raw (.int .i64 q)))], [(0, some (srB x))], []⟩
abbrev plF (l : List Dc) : Nat → Int := fun q => if misplaced l q then (q : Int) else 0
theorem plF_hit {l : List Dc} {q : Nat} (h : firstN (plF l) q = 0) (hq : q < l.length) (hm : misplaced l q = true) : placeX l = q ∧ ¬ (q : Int) = 0 := by
 have h0 : ¬ (q : Int) = 0 := by
  unfold misplaced at hm
  simp only [Bool.and_eq_true, decide_eq_true_eq] at hm
  omega
 have e : plF l q = q := if_pos hm
 have := firstN_hit (n := l.length) h hq (by rw [e]; exact h0)
 exact ⟨this.trans e, h0⟩
set_option maxRecDepth 100000 in
set_option maxHeartbeats 16000000 in
theorem unordered_c (x : Sr) (hl : x.uses.length ≤ 1048576) (hd : x.decls.length ≤ 1048576) : Con Tryz.prog 30 [avS x] (.d (.raw (.int .i64 (unordX x)))) := by
 refine con_of Tryz.func30 rfl (by decide +kernel) rfl rfl (by simp [Tryz.ntmps30]) fun A hA => ?_
 rw [Tryz.ntmps30] at hA
 refine goMid 300 [1, 2] [0] [] (fun σ => σ = (⟨[(1, .box 0 0), (2, .d (.raw (.int .i64 0)))], [(0, some (srB x))], []⟩ : St)) (by simp only [go_sem, hA, avS]) ?_
 rintro σ rfl
 refine goMid 100600 [1, 2] [0] [] (fun σ => firstN (usesBad x.uses) x.uses.length = 0 ∧ σ = (⟨[(1, .box 0 0), (2, .d (.raw (.int .i64 0)))], [(0, some (srB x))], []⟩ : St)) ?_ ?_
 ·simp only [go_sem, hA]
  refine satC_loop [1, 2, 3] [0] [] (fun y σ => ∃ q : Nat, 1 ≤ q ∧ (q ≤ x.uses.length ∨ q = 1) ∧ y = x.uses.length + 1 - q ∧ firstN (usesBad x.uses) q = 0 ∧ σ = un1St x q) x.uses.length ⟨1, by omega, .inr rfl, by omega, by rfl, rfl⟩ ?_
  rintro y σ ⟨q, hq1, hq, rfl, hf, rfl⟩
  refine goC 400 ?_
  by_cases hlt : q < x.uses.length
  ·have k1 : decide ((q : Int) < (x.uses.length : Int)) = true := decide_eq_true (by omega)
   have hq2 : ((q : Int) - 1).toNat = q - 1 := by omega
   have hat := atB_get x.uses q hlt
   have hat1 := atB_get x.uses (q - 1) (by omega)
   have hin : inI64 ((q : Int) - 1) := by unfold inI64; omega
   have hw : IntKind.i64.wrap ((q : Int) - 1) = (q : Int) - 1 := wrapI64 hin
   cases hls : ltS x.uses[q - 1] x.uses[q] with
   | false =>
    have hls' : Op.bytesLess x.uses[q - 1].data.toList x.uses[q].data.toList = false := hls
    have hb : usesBad x.uses q = 1 := by unfold usesBad; rw [hat, hat1]; exact if_pos ⟨by omega, hls⟩
    have hn : firstN (usesBad x.uses) x.uses.length = 1 := by rw [firstN_hit hf hlt (by rw [hb]; decide), hb]
    have hr : unordX x = -1 := by unfold unordX; rw [hn]; rfl
    simp only [go_sem, hA, encS_length, k1, hq2, Int.toNat_natCast, encS_at x.uses q hlt, encS_at x.uses (q - 1) (by omega), hls', hr, mixed, Tryz.results30]
    exact ⟨hin, ⟨by omega, by omega⟩, ⟨by omega, by omega⟩, by show chk _ _ _ = true; kernel_rfl⟩
   | true =>
    have hls' : Op.bytesLess x.uses[q - 1].data.toList x.uses[q].data.toList = true := hls
    have hb : usesBad x.uses q = 0 := by unfold usesBad; rw [hat, hat1]; exact if_neg fun h => by rw [hls] at h; cases h.2
    simp only [go_sem, hA, encS_length, k1, hq2, Int.toNat_natCast, encS_at x.uses q hlt, encS_at x.uses (q - 1) (by omega), hls', mixed]
    exact ⟨hin, ⟨by omega, by omega⟩, ⟨by omega, by omega⟩, by show chk _ _ _ = true; kernel_rfl, by unfold inI64; omega, x.uses.length + 1 - (q + 1), by omega, q + 1, by omega, .inl (by omega), rfl, firstN_step hf hb, rfl⟩
  ·have k1 : decide ((q : Int) < (x.uses.length : Int)) = false := decide_eq_false (by omega)
   have hz : firstN (usesBad x.uses) x.uses.length = 0 := by
    rcases hq with hq | hq
    ·obtain rfl : q = x.uses.length := by omega
     exact hf
    ·subst hq
     rcases Nat.lt_or_ge x.uses.length 1 with h | h
     ·rw [show x.uses.length = 0 by omega]; rfl
     ·rw [show x.uses.length = 1 by omega]; exact hf
   simp only [go_sem, hA, encS_length, k1]
   exact hz
 rintro σ ⟨hz, rfl⟩
 have hu : unordX x = if placeX x.decls = 0 then -1 else placeX x.decls := by unfold unordX; rw [hz]; rfl
 refine goC 400 ?_
 simp only [go_sem, hA]
 refine satC_loop [1, 2, 4] [0] [] (fun y σ => ∃ q : Nat, 1 ≤ q ∧ (q ≤ x.decls.length ∨ q = 1) ∧ y = x.decls.length + 1 - q ∧ firstN (plF x.decls) q = 0 ∧ σ = un2St x q) x.decls.length ⟨1, by omega, .inr rfl, by omega, by unfold firstN plF misplaced; rfl, rfl⟩ ?_
 rintro y σ ⟨q, hq1, hq, rfl, hf, rfl⟩
 refine goC 400 ?_
 by_cases hlt : q < x.decls.length
 case neg =>
  have k1 : decide ((q : Int) < (x.decls.length : Int)) = false := decide_eq_false (by omega)
  have hz : placeX x.decls = 0 := by
   show firstN (plF x.decls) x.decls.length = 0
   rcases hq with hq | hq
   ·obtain rfl : q = x.decls.length := by omega
    exact hf
   ·subst hq
    rcases Nat.lt_or_ge x.decls.length 1 with h | h
    ·rw [show x.decls.length = 0 by omega]; rfl
    ·rw [show x.decls.length = 1 by omega]; exact hf
  have hr : unordX x = -1 := by rw [hu, if_pos hz]
  simp only [go_sem, hA, encDs_length, k1, hr, Tryz.results30]
 have k1 : decide ((q : Int) < (x.decls.length : Int)) = true := decide_eq_true (by omega)
 have hq2 : ((q : Int) - 1).toNat = q - 1 := by omega
 have hat := atD_get x.decls q hlt
 have hat1 := atD_get x.decls (q - 1) (by omega)
 have hin : inI64 ((q : Int) - 1) := by unfold inI64; omega
 have hm : misplaced x.decls q = (decide (¬ x.decls[q].id = 0) && (decide (x.decls[q - 1].id = 0) || decide (x.decls[q].id ≤ x.decls[q - 1].id))) := by
  unfold misplaced; rw [hat, hat1, decide_eq_true (show 0 < q by omega), Bool.true_and]
 have hgo : misplaced x.decls q = false → firstN (plF x.decls) (q + 1) = 0 := fun h => firstN_step hf (by unfold plF; rw [h]; rfl)
 have hhit : misplaced x.decls q = true → unordX x = q := fun h => by
  obtain ⟨e1, e2⟩ := plF_hit hf hlt h
  rw [hu, e1, if_neg e2]
 have hd1 := encDs_at x.decls q hlt
 have hd2 := encDs_at x.decls (q - 1) (by omega)
 by_cases h1 : x.decls[q].id = 0
 ·have g1 : (decide ¬ x.decls[q].id = 0) = false := decide_eq_false (by simpa using h1)
  have hz := hgo (by rw [hm, g1]; rfl)
  simp only [go_sem, hA, encDs_length, k1, Int.toNat_natCast, hd1, encD, g1, undef, mixed]
  exact ⟨⟨by omega, by omega⟩, by show chk _ _ _ = true; kernel_rfl, by unfold inI64; omega, x.decls.length + 1 - (q + 1), by omega, q + 1, by omega, .inl (by omega), rfl, hz, rfl⟩
 ·have g1 : (decide ¬ x.decls[q].id = 0) = true := decide_eq_true h1
  by_cases h2 : x.decls[q - 1].id = 0
  ·have g2 : decide (x.decls[q - 1].id = 0) = true := decide_eq_true h2
   have hr := hhit (by rw [hm, g1, g2]; rfl)
   simp only [go_sem, hA, encDs_length, k1, hq2, Int.toNat_natCast, hd1, hd2, encD, g1, g2, undef, hr, mixed, Tryz.results30]
   exact ⟨⟨by omega, by omega⟩, hin, ⟨by omega, by omega⟩, by show chk _ _ _ = true; kernel_rfl⟩
  ·have g2 : decide (x.decls[q - 1].id = 0) = false := decide_eq_false h2
   cases h3 : decide (x.decls[q].id ≤ x.decls[q - 1].id) with
   | true =>
    have hr := hhit (by rw [hm, g1, g2, h3]; rfl)
    simp only [go_sem, hA, encDs_length, k1, hq2, Int.toNat_natCast, hd1, hd2, encD, g1, g2, h3, hr, mixed, Tryz.results30]
    exact ⟨⟨by omega, by omega⟩, hin, ⟨by omega, by omega⟩, hin, ⟨by omega, by omega⟩, ⟨by omega, by omega⟩, by show chk _ _ _ = true; kernel_rfl⟩
   | false =>
    have hz := hgo (by rw [hm, g1, g2, h3]; rfl)
    simp only [go_sem, hA, encDs_length, k1, hq2, Int.toNat_natCast, hd1, hd2, encD, g1, g2, h3, mixed]
    exact ⟨⟨by omega, by omega⟩, hin, ⟨by omega, by omega⟩, hin, ⟨by omega, by omega⟩, ⟨by omega, by omega⟩, by show chk _ _ _ = true; kernel_rfl, by unfold inI64; omega, x.decls.length + 1 - (q + 1), by omega, q + 1, by omega, .inl (by omega), rfl, hz, rfl⟩
end
end Go.Proofs.YtnnolijagpakiaaGreatDoor
