/- What the checks of an expression give: its parts, its sizes; the free variables, sorted. No program in sight. Lines of declarations: what they are, their sizes; what a valid source is. No program in sight. -/
import Derived.Test.YtnphcjpccieljaaGreatDoorGYf
namespace Go.Proofs.YtnphcjpccieljaaGreatDoor
open Go Go.RowKit
theorem wordL_size {n : Nat} {l : List UInt8} (h : wordL n l = true) : l.length ≤ n := by
  cases l with
  | nil => simp
  | cons c r =>
    simp only [wordL, Bool.and_eq_true, decide_eq_true_eq] at h
    simp only [List.length_cons]
    exact h.1.1
theorem nameB_size {s : ByteArray} (h : nameB s = true) : s.size ≤ 24 := by
  simp only [nameB, Bool.and_eq_true] at h
  exact wordL_size h.1
theorem opNames_size {s : ByteArray} (h : hasB opNames s = true) : s.size = 1 := by
  by_cases e : s.size = 1
  · exact e
  · rw [ops_long e] at h; cases h
theorem checkN_zero {k : Int} {n m : ByteArray} {i d : Int} {len : Nat} (h : checkN k n m i d len = 0) : ∃ nn nu ns, shapeK k = some (nn, nu, ns) ∧ argOk nn nu ns n m i d len = true ∧ namedB k n m (decide (1 ≤ nn)) (decide (2 ≤ nn)) = true ∧ ¬ (k = 13 ∧ n = m) ∧ rangedB k i d = true := by
  cases hs : shapeK k with
  | none => rw [checkN_none hs] at h; omega
  | some x =>
    obtain ⟨nn, nu, ns⟩ := x
    cases ha : argOk nn nu ns n m i d len with
    | false => rw [checkN_arg hs ha] at h; omega
    | true =>
      by_cases hn : namesErr k n m (decide (1 ≤ nn)) (decide (2 ≤ nn)) = 0
      · rw [checkN_range hs ha hn] at h
        refine ⟨nn, nu, ns, rfl, ha, ?_, ?_, ?_⟩
        · cases hb : namedB k n m (decide (1 ≤ nn)) (decide (2 ≤ nn)) with
          | true => rfl
          | false => simp [namesErr, hb] at hn
        · intro e
          unfold namesErr at hn
          rw [if_pos e] at hn
          split at hn <;> omega
        · cases hb : rangedB k i d with
          | true => rfl
          | false => simp [rangeErr, hb] at h
      · rw [checkN_names hs ha hn] at h; exact absurd h hn
set_option maxHeartbeats 4000000 in
theorem checkN_ok {k : Int} {n m : ByteArray} {i d : Int} {len : Nat} (h : checkN k n m i d len = 0) (h5 : k ≠ 5) : okN k n m i d len = true ∧ exN k len = true := by
  obtain ⟨nn, nu, ns, hs, ha, hn, _, hr⟩ := checkN_zero h
  simp only [argOk, Bool.and_eq_true, Bool.or_eq_true, decide_eq_true_eq] at ha
  obtain ⟨⟨⟨⟨ha1, ha2⟩, ha3⟩, ha4⟩, ha5⟩ := ha
  subst ha5
  simp only [namedB, Bool.and_eq_true] at hn
  have hm : m.size ≤ 120 := by
    by_cases e : 2 ≤ nn
    · have h1 := hn.1
      rw [decide_eq_true e] at h1
      have := nameB_size (s := m) (by simpa using h1)
      omega
    · omega
  have hn' : n.size ≤ 120 := by
    have h1 := hn.2
    unfold okName at h1
    rw [if_neg h5] at h1
    split at h1
    · have := opNames_size h1; omega
    · by_cases e : 1 ≤ nn
      · rw [decide_eq_true e] at h1
        have := nameB_size (s := n) (by simpa using h1)
        omega
      · omega
  have key : (arity k ≤ len ∧ (-9223372036854775808 ≤ i ∧ i ≤ 9223372036854775807) ∧ (-9223372036854775808 ≤ d ∧ d ≤ 9223372036854775807)) ∧ exN k len = true := by
    rcases shapeK_cases hs with ⟨rfl, e⟩ | ⟨rfl, e⟩ | ⟨rfl, e⟩ | ⟨rfl, e⟩ | ⟨rfl, e⟩ | ⟨rfl, e⟩ | ⟨rfl, e⟩ | ⟨rfl, e⟩ | ⟨rfl, e⟩ | ⟨rfl, e⟩ | ⟨rfl, e⟩ | ⟨rfl, e⟩ | ⟨rfl, e⟩ | ⟨rfl, e⟩ | ⟨rfl, e⟩ <;> cases e <;> simp [rangedB] at hr ha3 ha4 <;>
      exact ⟨by simp [arity] <;> omega, by simp [exN]⟩
  simp only [okN, Bool.and_eq_true, decide_eq_true_eq]
  exact ⟨⟨⟨⟨⟨⟨key.1.1, hn'⟩, hm⟩, key.1.2.1⟩, key.1.2.2⟩, h5⟩, key.2⟩
/-- number of parts by kind -/
theorem checkN_len {k : Int} {n m : ByteArray} {i d : Int} {len : Nat} (h : checkN k n m i d len = 0) : (k = 6 → len = 1) ∧ (k = 8 → len = 2) ∧ (k = 13 → len = 3) ∧ (k = 3 → len = 0) ∧ (k = 5 → len = 0) := by
  obtain ⟨nn, nu, ns, hs, ha, _⟩ := checkN_zero h
  have hl : len = ns := by simp only [argOk, Bool.and_eq_true, decide_eq_true_eq] at ha; exact ha.2
  subst hl
  rcases shapeK_cases hs with ⟨rfl, e⟩ | ⟨rfl, e⟩ | ⟨rfl, e⟩ | ⟨rfl, e⟩ | ⟨rfl, e⟩ | ⟨rfl, e⟩ | ⟨rfl, e⟩ | ⟨rfl, e⟩ | ⟨rfl, e⟩ | ⟨rfl, e⟩ | ⟨rfl, e⟩ | ⟨rfl, e⟩ | ⟨rfl, e⟩ | ⟨rfl, e⟩ | ⟨rfl, e⟩ <;> cases e <;> simp
theorem checkE_cons {e : Ex} {es : List Ex} (h : checkEs (e :: es) = 0) : checkE e = 0 ∧ checkEs es = 0 := by
  rw [checkEs] at h
  split at h
  · rename_i h0; exact ⟨h0, h⟩
  · rename_i h0; exact absurd h h0
theorem checkE_mk {k : Int} {n m : ByteArray} {i d : Int} {s : List Ex} (h : checkE (.mk k n m i d s) = 0) : checkN k n m i d s.length = 0 ∧ checkEs s = 0 := by
  by_cases h0 : checkN k n m i d s.length = 0
  · rw [checkE_good h0] at h; exact ⟨h0, h⟩
  · rw [checkE_bad rfl h0] at h; exact absurd h h0
mutual
theorem checkE_full : ∀ t : Ex, checkE t = 0 → kindsE 5 t = false → fullE t = true
  | .mk k n m i d s, h, h5 => by
    obtain ⟨h1, h2⟩ := checkE_mk h
    simp only [kindsE, Bool.or_eq_false_iff, decide_eq_false_iff_not] at h5
    obtain ⟨h3, h4⟩ := checkN_ok h1 h5.1
    simp only [fullE, Bool.and_eq_true]
    exact ⟨⟨h3, h4⟩, checkEs_full s h2 h5.2⟩
theorem checkEs_full : ∀ l : List Ex, checkEs l = 0 → kindsL 5 l = false → fullL l = true
  | [], _, _ => rfl
  | e :: es, h, h5 => by
    obtain ⟨h1, h2⟩ := checkE_cons h
    simp only [kindsL, Bool.or_eq_false_iff] at h5
    simp only [fullL, Bool.and_eq_true]
    exact ⟨checkE_full e h1 h5.1, checkEs_full es h2 h5.2⟩
end
mutual
theorem checkE_shp : ∀ t : Ex, checkE t = 0 → shpE t = true
  | .mk k n m i d s, h => by
    obtain ⟨h1, h2⟩ := checkE_mk h
    obtain ⟨e6, e8, e13, _⟩ := checkN_len h1
    simp only [shpE, Bool.and_eq_true, Bool.or_eq_true, decide_eq_true_eq]
    exact ⟨⟨⟨(Decidable.em (k = 6)).elim (fun e => .inr (e6 e)) .inl, (Decidable.em (k = 8)).elim (fun e => .inr (e8 e)) .inl⟩, (Decidable.em (k = 13)).elim (fun e => .inr (e13 e)) .inl⟩, checkEs_shp s h2⟩
theorem checkEs_shp : ∀ l : List Ex, checkEs l = 0 → shpL l = true
  | [], _ => rfl
  | e :: es, h => by
    obtain ⟨h1, h2⟩ := checkE_cons h
    simp only [shpL, Bool.and_eq_true]
    exact ⟨checkE_shp e h1, checkEs_shp es h2⟩
end
theorem checkX_E {t : Ex} (h : checkX t = 0) : checkE t = 0 ∧ nodesE t ≤ 400 ∧ depthE t ≤ 40 := by
  unfold checkX at h
  split at h
  · omega
  · exact ⟨h, by omega, by omega⟩
theorem checkX_full {t : Ex} (h : checkX t = 0) (h5 : kindsE 5 t = false) : fullE t = true := checkE_full t (checkX_E h).1 h5
theorem checkX_shp {t : Ex} (h : checkX t = 0) : shpE t = true := checkE_shp t (checkX_E h).1
/-- the order of strings -/
theorem bytesLess_iff : ∀ a b : List UInt8, Op.bytesLess a b = true ↔ a < b
  | [], [] => by simp [Op.bytesLess]
  | x :: a, [] => by simp [Op.bytesLess]
  | [], y :: b => by simp [Op.bytesLess]
  | x :: a, y :: b => by
    rw [Op.bytesLess, Bool.or_eq_true, Bool.and_eq_true, List.cons_lt_cons_iff, bytesLess_iff a b]
    simp
def ltL (a b : ByteArray) : Prop := a.data.toList < b.data.toList
theorem ltS_iff (a b : ByteArray) : ltS a b = true ↔ ltL a b := bytesLess_iff _ _
theorem ba_inj {a b : ByteArray} (h : a.data.toList = b.data.toList) : a = b := by
  apply ByteArray.ext; apply Array.ext'; exact h
theorem ltL_trans {a b c : ByteArray} (h1 : ltL a b) (h2 : ltL b c) : ltL a c := List.lt_trans h1 h2
theorem ltL_irrefl (a : ByteArray) : ¬ ltL a a := List.lt_irrefl _
theorem ltL_or {a b : ByteArray} (h : ¬ ltL a b) (hne : a ≠ b) : ltL b a := by
  have h1 : b.data.toList ≤ a.data.toList := List.not_lt.1 h
  rcases List.le_iff_lt_or_eq.1 h1 with h2 | h2
  · exact h2
  · exact absurd (ba_inj h2).symm hne
abbrev Srt (l : List ByteArray) : Prop := l.Pairwise ltL
theorem takeWhile_get {α : Type} {p : α → Bool} : ∀ (l : List α), (l.drop (l.takeWhile p).length = [] ∨ ∃ x r, l.drop (l.takeWhile p).length = x :: r ∧ p x = false) ∧ l.take (l.takeWhile p).length = l.takeWhile p
  | [] => by simp
  | x :: l => by
    rw [List.takeWhile_cons]
    cases hp : p x with
    | false => simp only [Bool.false_eq_true, if_false]; exact ⟨.inr ⟨x, l, rfl, hp⟩, rfl⟩
    | true =>
      obtain ⟨h1, h2⟩ := takeWhile_get (p := p) l
      simp only [if_true, List.length_cons, List.drop_succ_cons, List.take_succ_cons, h2, and_true]
      exact h1
theorem takeWhile_imp {α : Type} {p : α → Bool} : ∀ {l : List α} {x : α}, x ∈ l.takeWhile p → p x = true
  | y :: l, x, h => by
    rw [List.takeWhile_cons] at h
    cases hp : p y with
    | false => rw [hp] at h; simp at h
    | true =>
      rw [hp] at h
      simp only [if_true] at h
      rcases List.mem_cons.1 h with rfl | h
      · exact hp
      · exact takeWhile_imp h
theorem withS_mem (l : List ByteArray) (s x : ByteArray) : x ∈ withS l s ↔ x ∈ l ∨ x = s := by
  unfold withS
  split
  · rename_i h
    have := List.mem_of_getElem? h
    constructor
    · exact .inl
    · rintro (h | rfl)
      · exact h
      · exact this
  · have h : x ∈ l ↔ x ∈ l.take (posS l s) ∨ x ∈ l.drop (posS l s) := by
      rw [← List.mem_append, List.take_append_drop]
    rw [h]
    simp only [List.mem_append, List.mem_singleton]
    constructor
    · rintro ((h | h) | h)
      · exact .inl (.inl h)
      · exact .inr h
      · exact .inl (.inr h)
    · rintro ((h | h) | h)
      · exact .inl (.inl h)
      · exact .inr h
      · exact .inl (.inr h)
theorem withS_srt {l : List ByteArray} (s : ByteArray) (h : Srt l) : Srt (withS l s) := by
  unfold withS
  split
  · exact h
  · rename_i hne
    obtain ⟨h1, h2⟩ := takeWhile_get (p := fun x => ltS x s) l
    have hsplit : Srt (l.take (posS l s) ++ l.drop (posS l s)) := by rw [List.take_append_drop]; exact h
    obtain ⟨ha, hb, hab⟩ := List.pairwise_append.1 hsplit
    have hlt : ∀ x ∈ l.take (posS l s), ltL x s := fun x hx => by
      unfold posS at hx
      rw [h2] at hx
      exact (ltS_iff _ _).1 (takeWhile_imp (p := fun x => ltS x s) hx)
    have hgt : ∀ x ∈ l.drop (posS l s), ltL s x := fun x hx => by
      rcases h1 with h1 | ⟨y, r, h1, hy⟩
      · unfold posS at hx; rw [h1] at hx; cases hx
      · have hd : l.drop (posS l s) = y :: r := h1
        have hyne : y ≠ s := fun e => hne (by
          have : (l.drop (posS l s))[0]? = some y := by rw [hd]; rfl
          rw [List.getElem?_drop, Nat.add_zero] at this
          rw [this, e])
        have hys : ltL s y := ltL_or (fun h => by rw [(ltS_iff _ _).2 h] at hy; cases hy) hyne
        rw [hd] at hx hb
        rcases List.mem_cons.1 hx with rfl | hx
        · exact hys
        · exact ltL_trans hys (List.rel_of_pairwise_cons hb hx)
    refine List.pairwise_append.2 ⟨List.pairwise_append.2 ⟨ha, List.pairwise_singleton _ _, fun x hx y hy => ?_⟩, hb, fun x hx y hy => ?_⟩
    · rw [List.mem_singleton] at hy; subst hy; exact hlt x hx
    · rcases List.mem_append.1 hx with hx | hx
      · exact hab x hx y hy
      · rw [List.mem_singleton] at hx; subst hx; exact hgt y hy
structure Alike (l fs : List ByteArray) : Prop where
  mem : ∀ x, x ∈ l ↔ x ∈ fs
  srt : Srt l
  nd : fs.Nodup
theorem hasS_iff {l : List ByteArray} {s : ByteArray} : hasS l s = true ↔ s ∈ l := by
  simp [hasS]
theorem Alike.add {l fs : List ByteArray} (h : Alike l fs) (s : ByteArray) : Alike (withS l s) (addS fs s) := by
  refine ⟨fun x => ?_, withS_srt s h.srt, ?_⟩
  · rw [withS_mem]
    unfold addS
    split
    · rename_i hs
      have := hasS_iff.1 hs
      rw [h.mem]
      constructor
      · rintro (h | rfl)
        · exact h
        · exact this
      · exact .inl
    · rw [List.mem_append, List.mem_singleton, h.mem]
  · unfold addS
    split
    · exact h.nd
    · rename_i hs
      refine List.nodup_append.2 ⟨h.nd, by simp, fun a ha b hb e => ?_⟩
      rw [List.mem_singleton] at hb
      subst hb; subst e
      exact hs (hasS_iff.2 ha)
mutual
theorem free_alike : ∀ (t : Ex) (bd l fs : List ByteArray), checkE t = 0 → Alike l fs → Alike (freeE t bd l) (addE t bd fs)
  | .mk k n m i d s, bd, l, fs, hc, h => by
    obtain ⟨h1, h2⟩ := checkE_mk hc
    rw [freeE, addE]
    by_cases hk : k = 3
    · have hs : s = [] := List.eq_nil_of_length_eq_zero ((checkN_len h1).2.2.2.1 hk)
      subst hs
      cases hb : hasS bd n with
      | true => simp only [hk, freeL]; simpa using h
      | false => simp only [hk]; simpa using h.add n
    · simp only [hk, false_and, if_false]
      exact freeL_alike k n m 0 s bd l fs h2 h
theorem freeL_alike (k : Int) (n m : ByteArray) : ∀ (i : Nat) (s : List Ex) (bd l fs : List ByteArray), checkEs s = 0 → Alike l fs → Alike (freeL k n m i s bd l) (addL k n m i s bd fs)
  | i, [], bd, l, fs, _, h => by rw [freeL, addL]; exact h
  | i, e :: es, bd, l, fs, hc, h => by
    obtain ⟨h1, h2⟩ := checkE_cons hc
    rw [freeL, addL]
    exact freeL_alike k n m (i + 1) es bd _ _ h2 (free_alike e _ l fs h1 h)
end
theorem srt_nodup {l : List ByteArray} (h : Srt l) : l.Nodup := h.imp fun h e => by subst e; exact ltL_irrefl _ h
theorem Alike.sort {l fs : List ByteArray} (h : Alike l fs) : sortS fs = l := by
  have hp : l.Perm fs := (List.perm_ext_iff_of_nodup (srt_nodup h.srt) h.nd).2 h.mem
  rw [← sortS_perm hp]
  unfold sortS
  have hs : (l.map fun s => s.data.toList).Pairwise fun x y => decide (x ≤ y) = true := by
    rw [List.pairwise_map]
    exact h.srt.imp fun h => decide_eq_true (List.le_of_lt h)
  rw [List.mergeSort_of_pairwise hs, List.map_map]
  have : ((fun x : List UInt8 => (⟨x.toArray⟩ : ByteArray)) ∘ fun s : ByteArray => s.data.toList) = id := by
    funext s; rfl
  rw [this, List.map_id]
theorem free_sort {t : Ex} (h : checkX t = 0) : sortS (addE t [] []) = freeE t [] [] :=
  (free_alike t [] [] [] (checkX_E h).1 ⟨fun _ => Iff.rfl, .nil, .nil⟩).sort
theorem sfreeX_eq (t : Ex) : sfreeX t = freeX t := by
  unfold sfreeX freeX
  split
  · rename_i h; exact free_sort h
  · rfl
end Go.Proofs.YtnphcjpccieljaaGreatDoor

namespace Go.Proofs.YtnphcjpccieljaaGreatDoor
open Go Go.RowKit
def joinB (l : List ByteArray) (sep : List UInt8) : ByteArray := ⟨(Lib.join (l.map fun s => s.data.toList) sep).toArray⟩
def nilS (s : ByteArray) : ByteArray := if s = ⟨#[]⟩ then bs [110, 105, 108] else s
theorem join_snoc (sep : List UInt8) : ∀ (l : List (List UInt8)) (x : List UInt8), Lib.join (l ++ [x]) sep = if l = [] then x else Lib.join l sep ++ sep ++ x
  | [], x => by simp [Lib.join_one]
  | y :: l, x => by
    rw [if_neg (by simp), List.cons_append, Lib.join_cons, Lib.join_cons]
    simp [Lib.joinTail, List.append_assoc]
theorem ba_list {a b : ByteArray} : a = b ↔ a.data.toList = b.data.toList := ⟨fun h => by rw [h], ba_inj⟩
theorem joinB_nil (sep : List UInt8) : joinB [] sep = ⟨#[]⟩ := rfl
theorem joinB_snoc (l : List ByteArray) (x : ByteArray) (sep : List UInt8) : joinB (l ++ [x]) sep = if l = [] then x else joinB l sep ++ bs sep ++ x := by
  unfold joinB
  rw [List.map_append, List.map_cons, List.map_nil, join_snoc]
  by_cases h : l = []
  · subst h
    simp only [if_true, List.map_nil]
  · rw [if_neg h, if_neg (by simpa using h)]
    apply ba_inj
    simp [bs]
def namesB (l : List ByteArray) : ByteArray := joinB (l.map nilS) [32, 124, 124, 32]
theorem namesB_succ (l : List ByteArray) (q : Nat) (h : q < l.length) : namesB (l.take (q + 1)) = if q = 0 then nilS l[q] else namesB (l.take q) ++ bs [32, 124, 124, 32] ++ nilS l[q] := by
  unfold namesB
  rw [List.take_succ_eq_append_getElem h, List.map_append, List.map_cons, List.map_nil, joinB_snoc]
  by_cases hq : q = 0
  · subst hq; simp
  · rw [if_neg hq, if_neg]
    intro e
    have : ((l.take q).map nilS).length = 0 := by rw [e]; rfl
    rw [List.length_map, List.length_take] at this
    omega
theorem joinB_size (sep : List UInt8) : ∀ l : List ByteArray, (joinB l sep).size ≤ sumB l + l.length * sep.length
  | [] => by simp [joinB_nil]; exact Nat.le_refl _
  | x :: l => by
    have h : ∀ l : List ByteArray, ((Lib.joinTail sep (l.map fun s => s.data.toList))).length = sumB l + l.length * sep.length := fun l => by
      induction l with
      | nil => simp [Lib.joinTail, sumB]
      | cons y l ih =>
        have hy : y.data.toList.length = y.size := rfl
        simp only [Lib.joinTail, List.map_cons, List.flatten_cons, List.length_append, sumB, List.length_cons, hy] at ih ⊢
        rw [ih, Nat.succ_mul]; omega
    have hx : x.data.toList.length = x.size := rfl
    unfold joinB
    rw [List.map_cons, Lib.join_cons]
    show (x.data.toList ++ _).toArray.size ≤ _
    rw [List.size_toArray, List.length_append, h l, hx]
    simp only [sumB, List.length_cons, Nat.succ_mul]
    omega
theorem nilS_size (s : ByteArray) : (nilS s).size ≤ s.size + 3 := by
  unfold nilS
  split
  · rw [bs_size]; simp
  · omega
theorem sumB_nil : ∀ l : List ByteArray, sumB (l.map nilS) ≤ sumB l + 3 * l.length
  | [] => by simp [sumB]
  | s :: l => by
    have h1 := nilS_size s
    have h2 := sumB_nil l
    simp only [List.map_cons, sumB, List.length_cons]
    omega
theorem namesB_size (l : List ByteArray) : (namesB l).size ≤ sumB l + 7 * l.length := by
  have h1 := joinB_size [32, 124, 124, 32] (l.map nilS)
  have h2 := sumB_nil l
  unfold namesB
  simp only [List.length_map, List.length_cons, List.length_nil] at h1
  omega
theorem sumB_take : ∀ (l : List ByteArray) (q : Nat), sumB (l.take q) ≤ sumB l
  | [], q => by simp
  | s :: l, 0 => by simp [sumB]
  | s :: l, q + 1 => by
    have := sumB_take l q
    simp only [List.take_succ_cons, sumB]
    omega
theorem sumB_get : ∀ (l : List ByteArray) (q : Nat) (h : q < l.length), l[q].size ≤ sumB l
  | s :: l, 0, _ => by simp [sumB]
  | s :: l, q + 1, h => by
    have := sumB_get l q (by simpa using h)
    simp only [List.getElem_cons_succ, sumB]
    omega
def kindW (k : Int) : ByteArray := if k = 1 then bs [108, 101, 116] else if k = 2 then bs [116, 101, 115, 116] else bs [102, 108, 97, 107, 121]
def preD (x : Dc) : List ByteArray := (if x.doubt then [bs [99, 111, 110, 102, 108, 105, 99, 116]] else []) ++ (if x.pub then [bs [112, 117, 98]] else [])
def midD (x : Dc) : List ByteArray := preD x ++ [kindW x.kind] ++ [joinB (x.names.map nilS) [32, 124, 124, 32]]
def dParts (x : Dc) : List ByteArray := midD x ++ (if x.id = 0 then [] else [bs [64] ++ itoaB x.id]) ++ [bs [61], txE x.body, bs [59]]
def dLine (x : Dc) : ByteArray := joinB (dParts x) [32] ++ bs [10]
theorem sumB_append : ∀ a b : List ByteArray, sumB (a ++ b) = sumB a + sumB b
  | [], b => by simp [sumB]
  | x :: a, b => by simp [sumB, sumB_append a b]; omega
/-- what a valid declaration is -/
structure OkD (x : Dc) : Prop where
  id : 0 ≤ x.id ∧ x.id ≤ 999999
  kind : 1 ≤ x.kind ∧ x.kind ≤ 3
  len : x.names.length = 1 ∨ x.names.length = 3
  nm : ∀ s ∈ x.names, nameB s = true ∨ (x.names.length = 3 ∧ s = ⟨#[]⟩)
  chk : checkX x.body = 0
  ref : kindsE 5 x.body = false
theorem sdecl_ok {x : Dc} (h : sdeclX x = 0) : OkD x := by
  unfold sdeclX at h
  split at h
  · exact absurd h (by decide)
  rename_i h1
  split at h
  · exact absurd h (by decide)
  rename_i h2
  split at h
  · rename_i h3; exact absurd h h3
  rename_i h3
  split at h
  · rename_i h4; exact absurd h h4
  rename_i h4
  split at h
  · exact absurd h (by decide)
  rename_i h5
  have h3 : namesX x.names = 0 := Decidable.of_not_not h3
  unfold namesX at h3
  split at h3
  · exact absurd h3 (by decide)
  rename_i h6
  split at h3
  · exact absurd h3 (by decide)
  rename_i h7
  refine ⟨by omega, by omega, by omega, fun s hs => ?_, Decidable.of_not_not h4, by simpa using h5⟩
  have h8 : badName x.names s = false := by
    cases hb : badName x.names s with
    | false => rfl
    | true => exact absurd (List.any_eq_true.2 ⟨s, hs, hb⟩) h7
  unfold badName at h8
  cases hn : nameB s with
  | true => exact .inl rfl
  | false =>
    simp only [hn, Bool.not_false, Bool.true_and, Bool.or_eq_false_iff, decide_eq_false_iff_not, Decidable.not_not] at h8
    exact .inr ⟨by omega, h8.2⟩
theorem firstN_zero {f : Nat → Int} : ∀ {n : Nat}, firstN f n = 0 → ∀ i, i < n → f i = 0
  | 0, _, i, hi => by omega
  | n + 1, h, i, hi => by
    rw [firstN] at h
    split at h
    · rename_i h0
      by_cases e : i = n
      · subst e; exact h
      · exact firstN_zero h0 i (by omega)
    · rename_i h0; exact absurd h h0
structure OkSr (x : Sr) : Prop where
  uses : x.uses.length ≤ 20
  lab : ∀ s ∈ x.uses, labelL s.data.toList = true
  decls : x.decls.length ≤ 100
  dec : ∀ d ∈ x.decls, OkD d
theorem src_ok {x : Sr} (h : srcX sdeclX x = 0) : OkSr x := by
  unfold srcX at h
  split at h
  · exact absurd h (by decide)
  rename_i h1
  split at h
  · rename_i h2; exact absurd h h2
  rename_i h2
  split at h
  · exact absurd h (by decide)
  rename_i h3
  have h2 : firstN (useE x.uses) x.uses.length = 0 := Decidable.of_not_not h2
  refine ⟨by omega, fun s hs => ?_, by omega, fun d hd => ?_⟩
  · obtain ⟨i, hi, rfl⟩ := List.getElem_of_mem hs
    have h4 := firstN_zero h2 i hi
    unfold useE at h4
    rw [atB_get x.uses i hi] at h4
    split at h4
    · rename_i h5; exact h5
    · exact absurd h4 (by decide)
  · obtain ⟨i, hi, rfl⟩ := List.getElem_of_mem hd
    have h4 := firstN_zero h i hi
    unfold declE at h4
    rw [atD_get x.decls i hi] at h4
    split at h4
    · rename_i h5; exact absurd h4 h5
    · rename_i h5; exact sdecl_ok (Decidable.of_not_not h5)
theorem OkD.nmsum {x : Dc} (h : OkD x) : sumB x.names ≤ 24 * x.names.length := by
  have : ∀ l : List ByteArray, (∀ s ∈ l, s.size ≤ 24) → sumB l ≤ 24 * l.length := fun l => by
    induction l with
    | nil => intro _; simp [sumB]
    | cons s l ih =>
      intro hl
      have h1 := hl s (by simp)
      have h2 := ih fun t ht => hl t (by simp [ht])
      simp only [sumB, List.length_cons]
      omega
  refine this _ fun s hs => ?_
  rcases h.nm s hs with h1 | ⟨_, rfl⟩
  · exact nameB_size h1
  · show 0 ≤ 24; omega
theorem kindW_size (k : Int) : (kindW k).size ≤ 5 := by
  unfold kindW
  split
  · rw [bs_size]; simp
  · split
    · rw [bs_size]; simp
    · rw [bs_size]; simp
theorem OkD.size {x : Dc} (h : OkD x) : (joinB (dParts x) [32]).size ≤ 157000 := by
  have h1 := joinB_size [32] (dParts x)
  have h2 := h.nmsum
  have h3 := namesB_size x.names
  have h4 := txE_size x.body (fullE_ok _ (checkX_full h.chk h.ref))
  have h5 := (checkX_E h.chk).2.1
  have h6 := itoaB_size x.id (by have := h.id; unfold inI64; omega)
  have h7 := kindW_size x.kind
  have h8 : x.names.length ≤ 3 := by have := h.len; omega
  have h9 : sumB (dParts x) ≤ 8 + 3 + 5 + (namesB x.names).size + 22 + 1 + (txE x.body).size + 1 ∧ (dParts x).length ≤ 8 := by
    unfold dParts midD preD namesB
    simp only [sumB_append, List.length_append]
    refine ⟨?_, ?_⟩
    · have a1 : sumB (if x.doubt = true then [bs [99, 111, 110, 102, 108, 105, 99, 116]] else []) ≤ 8 := by split <;> simp [sumB, bs_size]
      have a2 : sumB (if x.pub = true then [bs [112, 117, 98]] else []) ≤ 3 := by split <;> simp [sumB, bs_size]
      have a3 : sumB (if x.id = 0 then [] else [bs [64] ++ itoaB x.id]) ≤ 22 := by
        split
        · simp [sumB]
        · simp only [sumB, ba_size, bs_size, List.length_cons, List.length_nil]; omega
      simp only [sumB, bs_size, List.length_cons, List.length_nil] at a1 a2 a3 ⊢
      omega
    · have a1 : (if x.doubt = true then [bs [99, 111, 110, 102, 108, 105, 99, 116]] else []).length ≤ 1 := by split <;> simp
      have a2 : (if x.pub = true then [bs [112, 117, 98]] else []).length ≤ 1 := by split <;> simp
      have a3 : (if x.id = 0 then [] else [bs [64] ++ itoaB x.id]).length ≤ 1 := by split <;> simp
      simp only [List.length_cons, List.length_nil] at a1 a2 a3 ⊢
      omega
  simp only [List.length_cons, List.length_nil] at h1
  omega
def useB (s : ByteArray) : ByteArray := bs [117, 115, 101, 32] ++ s ++ bs [32, 59, 10]
def catL (l : List ByteArray) : List UInt8 := (l.map fun s => s.data.toList).flatten
theorem catL_nil : catL [] = [] := rfl
theorem catL_append (a b : List ByteArray) : catL (a ++ b) = catL a ++ catL b := by simp [catL]
theorem catL_one (s : ByteArray) : catL [s] = s.data.toList := by simp [catL]
theorem catL_length : ∀ l : List ByteArray, (catL l).length = sumB l
  | [] => rfl
  | s :: l => by
    have hs : s.data.toList.length = s.size := rfl
    have := catL_length l
    simp only [catL, List.map_cons, List.flatten_cons, List.length_append, sumB, hs] at this ⊢
    rw [this]
def srcParts (x : Sr) : List ByteArray := x.uses.map useB ++ x.decls.map dLine
def textX (x : Sr) : ByteArray × Int := if srcX sdeclX x = 0 then (if 65536 < (catL (srcParts x)).length then (⟨#[]⟩, 4) else (⟨(catL (srcParts x)).toArray⟩, 0)) else (⟨#[]⟩, srcX sdeclX x)
theorem label_size {s : ByteArray} (h : labelL s.data.toList = true) : s.size ≤ 90 := by
  simp only [labelL, Bool.and_eq_true, decide_eq_true_eq] at h
  exact h.1
theorem sumB_le {n : Nat} : ∀ l : List ByteArray, (∀ s ∈ l, s.size ≤ n) → sumB l ≤ n * l.length
  | [], _ => by simp [sumB]
  | s :: l, h => by
    have h1 := h s (by simp)
    have h2 := sumB_le l fun t ht => h t (by simp [ht])
    simp only [sumB, List.length_cons, Nat.mul_succ]
    omega
theorem OkSr.uses_size {x : Sr} (h : OkSr x) : sumB (x.uses.map useB) ≤ 1940 := by
  have h1 := sumB_le (n := 97) (x.uses.map useB) fun s hs => by
    obtain ⟨t, ht, rfl⟩ := List.mem_map.1 hs
    have := label_size (h.lab t ht)
    simp only [useB, ba_size, bs_size, List.length_cons, List.length_nil]
    omega
  have := h.uses
  rw [List.length_map] at h1
  omega
theorem OkD.line_size {x : Dc} (h : OkD x) : (dLine x).size ≤ 157001 := by
  have := h.size
  unfold dLine
  rw [ba_size, bs_size]
  show (joinB (dParts x) [32]).size + 1 ≤ 157001
  omega
end Go.Proofs.YtnphcjpccieljaaGreatDoor
