/- Texts of this proof, part 26: what the proof uses of them. -/
import Derived.Test.YtnnolijagpakiaaGreatDoorRas
import Derived.Test.YtnnolijagpakiaaGreatDoorRao
import Derived.Test.YtnnolijagpakiaaGreatDoorRay
import Derived.Test.YtnnolijagpakiaaGreatDoorRap
import Derived.Shelf.Strings.Builder1
import Derived.Shelf.Strings.Builder2
import Derived.Shelf.Strings.OnBuilder
import Derived.Shelf.Small.Strs
import Derived.Shelf.Strings.BuilderF
import Derived.Shelf.Strings.BuilderK
import Derived.Shelf.Strings.Builder2Cap
import Derived.Shelf.Strconv.Atoi
import Derived.Shelf.Strconv.Itoa0
import Derived.Shelf.Strconv.Itoa1
import Derived.Shelf.LaysM
import Derived.Shelf.Strconv.Itoa2
import Derived.Shelf.Strconv.Itoa3
import Derived.Shelf.Strings.Search1
import Derived.Shelf.Strings.Search2
import Derived.Shelf.Strings.Search3
import Derived.Shelf.Strings.Shaped
import Derived.Shelf.Strings.Prefix
import Derived.Shelf.Unicode.DecodeSlow
import Derived.Shelf.Strings.BuilderCap
import Derived.Ground.Names2Prog
import Derived.Shelf.Slices.Clone
import Derived.Ground.SlgnProg
import Derived.Shelf.SlicesE.Clone
import Derived.Test.YtnnolijagpakiaaGreatDoorProg
namespace Go.Proofs.YtnnolijagpakiaaGreatDoor
section
open Go Go.RowKit
variable {P : Program} {A : Base P} {σ : St} {g : Gh} {a : Act} {w : World}
theorem Ok.appendedW (hk : Ok A σ g a w) {r : Nat} {k : Tok} {rows rows2 : List (List D)} {v x : Value} {t ty : TypeId} {z : Value} (hr : σ.tok r = some k) (hex : k.ex = none) (hv : Has g σ.tk w (.grow r rows) v) (hlen : rows.length = k.len) (hx : Reads w g.F (.sl rows2) x)
  (ht : P.underlying t = some (.slice k.ty)) (hz : zeroOf P k.ty = some z) (hzs : z.cells.size = P.cellsOf k.ty) (h0 : P.cellsOf k.ty ≠ 0) (hst : P.cellsOf k.ty = k.st) (hby : P.bytesOf k.ty ≤ 1024) (hfit : rowsFit k.st rows2) (hfit0 : ∀ r ∈ rows, r.length = k.st) (hbd : rows.length + rows2.length ≤ 137438953472) :
  ∃ g' v' w', (Builtin.append_ #[t, t] ty #[v, x]).run P w = .ok v' w' ∧ Ok A (σ.setTok r (some { k with len := k.len + rows2.length })) g' a w' ∧ Has g' (σ.setTok r (some { k with len := k.len + rows2.length })).tk w' (.grow r (rows ++ rows2)) v' := by
 obtain ⟨hrd, htv⟩ := hv.grow_eq
 have hve : v = g.tv r := (htv k.len (by simp [St.tk, hr])).2 hlen
 obtain ⟨xs, hown⟩ := (hk.tok r k hr).own hex
 have htk : (σ.setTok r (some { k with len := k.len + rows2.length })).tk r = some (k.len + rows2.length) := by simp [St.tk, St.tok_setTok]
 by_cases hm : rows2 = []
 ·subst hm
  obtain ⟨q, c, hxe, _⟩ := hx.slice
  have hr0 := run_append_zero (P := P) (w := w) (t := t) (ty := ty) (v := v) (x := x) (n := k.len) ht h0 (by
   rw [hve]
   rcases hown.2 with h1 | ⟨b, cap, cur, h1, _, _, h2, _⟩
   ·exact .inl h1
   ·exact .inr ⟨b, cap, h1, h2⟩) ⟨q, c, hxe⟩
  have hg : w.grownBy w (g.tv r).ownBlock := ⟨rfl, rfl, rfl, Nat.le_refl _, fun _ _ _ => rfl⟩
  obtain ⟨h1, e1⟩ := hk.append (m := 0) (v' := g.tv r) (w' := w) (xs := xs) hr hex (by simpa using hown) hg (Below.refl _ _) (fun _ _ _ _ => rfl) (.inl rfl) (fun _ => rfl)
  refine ⟨_, v, w, hr0, h1, .grow r _ _ ?_ fun n' hn' => ?_⟩
  ·rw [List.append_nil]; exact hrd.mono e1.hF e1.hw
  ·simp only [List.append_nil, List.length_nil, Nat.add_zero] at hn' ⊢
   simp only [St.tk, St.tok_setTok, if_pos, Option.map_some, Option.some.injEq] at hn'
   subst hn'
   exact ⟨by omega, fun _ => by simp only [updN_same]; exact hve⟩
 ·obtain ⟨b, off, c, news, hxe, hnl, hnews, hone, hnr⟩ := hx.news (st := k.st) (fun q hq => (hfit q hq).1) (fun q hq => (hfit q hq).2) hm
  obtain ⟨i, hi, hzi⟩ : ∃ i, P.info? k.ty = some i ∧ i.zero = some z := by
   unfold zeroOf at hz
   cases hi : P.info? k.ty with
   | none => simp [hi] at hz
   | some i => exact ⟨i, rfl, by simpa [hi] using hz⟩
  have hsz : i.size = k.st := by rw [← hst]; simp [Program.cellsOf, hi]
  have hbi : i.bytes = P.bytesOf k.ty := by simp [Program.bytesOf, hi]
  have hbb : (k.len + rows2.length) * P.bytesOf k.ty ≤ 140737488355328 := by
   have h1 := Nat.mul_le_mul (show k.len + rows2.length ≤ 137438953472 by omega) hby
   omega
  obtain ⟨v', w', hr', hown', hg, _, hat⟩ := run_append_own_at (P := P) w A.B t ty k.ty i z k.st (P.bytesOf k.ty) ht hi hzi hsz hbi (by rw [hzs, hst]) (by omega) (g.tv r) k.len xs hown ⟨b, off, none⟩ rows2.length c news hnl hnews hone (by unfold maxLen; omega) hbb hk.hB
  have hbel : Below A.B w w' := ⟨hg.os, hg.tape, hg.output, hg.size, fun q hq => hg.block q (by have := hk.hB; omega) (fun e => by have := (hown.lt q e.symm).1; omega)⟩
  have hxs : xs.length = k.len * k.st := hown.1
  have hpos2 : 0 < rows2.length := by
   cases rows2 with
   | nil => exact absurd rfl hm
   | cons => simp
  -- either the same block, or a new one, and the elder block is asL it was
  have hat2 : v'.ownBlock = (g.tv r).ownBlock ∨ ∀ q, q < w.heap.size → w'.heap[q]? = w.heap[q]? := by
   rcases hown.2 with ⟨h1, h2⟩ | ⟨gb, cap, cur, h1, _, h3, h4, _⟩
   ·have hr2 := run_append_nil (P := P) (w := w) t ty k.ty i z ht hi hzi ⟨b, off, none⟩ rows2.length c news (by rw [hnl, hsz]) hnews hpos2 (by omega) (by rw [hbi]; have := Nat.mul_le_mul (show rows2.length ≤ 137438953472 by omega) hby; omega)
    rw [h1] at hr'
    rw [hr'] at hr2
    injection hr2 with _ hw2
    right
    intro q hq
    rw [hw2]
    exact Below.heap_alloc w.drew _ q hq
   ·by_cases hroom : k.len + rows2.length ≤ cap
    ·have hcs : k.len * i.size + news.length ≤ cur.size := by
      rename_i _ h6
      obtain ⟨_, h6, _⟩ := h6
      rw [hnl, hsz, h6, ← Nat.add_mul]
      exact Nat.mul_le_mul_right _ hroom
     have hr2 := run_append_room (P := P) w t ty k.ty i ht hi gb k.len cap cur h3 ⟨b, off, none⟩ rows2.length c news (by rw [hnl, hsz]) hnews hone hroom hcs
     rw [h1] at hr'
     rw [hr'] at hr2
     injection hr2 with hv2 _
     left
     rw [hv2, h1]; rfl
    ·have holds := hown.cells (g := gb) (by rw [h1]; rfl)
     have hr2 := run_append_grow (P := P) w t ty k.ty i z ht hi hzi ⟨gb, 0, none⟩ k.len cap xs (by rw [hown.1, hsz]) holds ⟨b, off, none⟩ rows2.length c news (by rw [hnl, hsz]) hnews (by omega) (by omega) (growslice_fits_wide (by omega) (by
      rw [hbi]
      have := Nat.mul_le_mul (show k.len + rows2.length + (k.len + rows2.length) / 4 + 192 ≤ 274877906944 by omega) hby
      omega))
     rw [h1] at hr'
     rw [hr'] at hr2
     injection hr2 with _ hw2
     right
     intro q hq
     rw [hw2]
     exact Below.heap_alloc w.drew _ q hq
  have hkeep : ∀ q o, (g.tv r).ownBlock = some q → o < k.len * k.st → w'.cell? ⟨q, o, none⟩ = w.cell? ⟨q, o, none⟩ := fun q o hq ho => by
   rcases hat2 with h2 | h2
   ·have h1 := hown.cells (g := q) hq o xs[o] (List.getElem?_eq_getElem (by omega))
    rw [Addr.add_lit, Nat.zero_add] at h1
    rw [h1]
    have h3 := hown'.cells (g := q) (h2.trans hq) o xs[o] (by rw [List.getElem?_append_left (by omega)]; exact List.getElem?_eq_getElem (by omega))
    rw [Addr.add_lit, Nat.zero_add] at h3
    exact h3
   ·exact cell_block (h2 q (hown.lt q hq).2)
  obtain ⟨h1, e1⟩ := hk.append (m := rows2.length) (v' := v') (w' := w') (xs := xs ++ news) hr hex hown' hg hbel hkeep hat (fun h => absurd (List.eq_nil_of_length_eq_zero h) hm)
  refine ⟨_, v', w', by rw [hve, hxe]; exact hr', h1, .grow r _ _ ?_ fun n' hn' => ?_⟩
  ·suffices key : ∀ G : Nat → Nat → Prop, (∀ b o, growF g.F v' ((k.len + rows2.length) * k.st) b o → G b o) → Reads w' G (.sl (rows ++ rows2)) v' from key _ (fun _ _ h => h)
   intro G hG
   rcases hown'.2 with ⟨_, h2⟩ | ⟨gb2, cap2, cur, hv2, _, _, hcap, _⟩
   ·omega
   ·have hll : (rows ++ rows2).length = k.len + rows2.length := by rw [List.length_append, hlen]
    rw [hv2, ← hll]
    have hcell' := hown'.cells (g := gb2) (by rw [hv2]; rfl)
    refine Reads.mk (st := k.st) (by omega) (fun i hi => ?_) fun i hi j hj => ?_
    ·rcases List.mem_append.1 (List.getElem_mem hi) with h3 | h3
     ·exact hfit0 _ h3
     ·exact (hfit _ h3).1
    ·have hF : growF g.F v' ((k.len + rows2.length) * k.st) gb2 (0 + i * k.st + j) := by
      right
      refine ⟨by rw [hv2]; rfl, ?_⟩
      have hjs : j < k.st := by
       rcases List.mem_append.1 (List.getElem_mem hi) with h3 | h3
       ·rw [hfit0 _ h3] at hj; exact hj
       ·rw [(hfit _ h3).1] at hj; exact hj
      have := Nat.mul_le_mul_right k.st (show i + 1 ≤ k.len + rows2.length by omega)
      rw [Nat.add_mul] at this; omega
     refine ⟨hG _ _ hF, ?_⟩
     by_cases hlt : i < rows.length
     ·have hrow : (rows ++ rows2)[i] = rows[i] := List.getElem_append_left hlt
      have hj1 : j < rows[i].length := by rw [← hrow]; exact hj
      have hel : (rows ++ rows2)[i][j] = rows[i][j] := by congr 1
      have hst1 : rows[i].length = k.st := hfit0 _ (List.getElem_mem hlt)
      obtain ⟨q, cc, hve2, _⟩ := hrd.slice
      have hrd2 := hrd
      rw [hve2] at hrd2
      obtain ⟨b1, off1, rfl, hc1⟩ := hrd2.row i hlt hst1
      obtain ⟨_, u, hu, hru⟩ := hc1 j hj1
      rcases hown.2 with ⟨h5, h6⟩ | ⟨gb, cap, cur1, h5, _⟩
      ·omega
      ·rw [← hve, hve2] at h5
       injection h5 with h7 _ _
       injection h7 with h8
       have hb1 : b1 = gb := congrArg Addr.block h8
       have ho1 : off1 = 0 := congrArg Addr.off h8
       subst hb1 ho1
       have hm1 : i * k.st + j < xs.length := by
        rw [hown.1]
        have := Nat.mul_le_mul_right k.st (show i + 1 ≤ k.len by omega)
        rw [Nat.add_mul] at this; omega
       have h9 := hown.cells (g := b1) (by rw [← hve, hve2]; rfl) (i * k.st + j) xs[i * k.st + j] (List.getElem?_eq_getElem hm1)
       rw [Addr.add_lit] at h9
       have hu' : xs[i * k.st + j] = u := by
        rw [Nat.add_assoc] at hu
        exact Option.some.inj (h9.symm.trans hu)
       have h10 := hcell' (i * k.st + j) u (by rw [List.getElem?_append_left hm1, List.getElem?_eq_getElem hm1, hu'])
       rw [Addr.add_lit] at h10
       rw [hel]
       exact ⟨u, by rw [Nat.add_assoc]; exact h10, hru.mono (fun b o hf => hG b o (e1.hF b o hf)) e1.hw⟩
     ·have hi2 : i - rows.length < rows2.length := by rw [List.length_append] at hi; omega
      have hrow : (rows ++ rows2)[i] = rows2[i - rows.length] := List.getElem_append_right (by omega)
      have hj1 : j < rows2[i - rows.length].length := by rw [← hrow]; exact hj
      have hel : (rows ++ rows2)[i][j] = rows2[i - rows.length][j] := by congr 1
      obtain ⟨u, hu, hru⟩ := hnr _ hi2 j hj1
      have hidx : i * k.st + j - xs.length = (i - rows.length) * k.st + j := by
       rw [hown.1, ← hlen, Nat.sub_mul]
       have := Nat.mul_le_mul_right k.st (show rows.length ≤ i by omega)
       omega
      have hge : xs.length ≤ i * k.st + j := by
       rw [hown.1, ← hlen]
       have := Nat.mul_le_mul_right k.st (show rows.length ≤ i by omega)
       omega
      have h10 := hcell' (i * k.st + j) u (by rw [List.getElem?_append_right hge, hidx]; exact hu)
      rw [Addr.add_lit] at h10
      rw [hel]
      exact ⟨u, by rw [Nat.add_assoc]; exact h10, hru.mono (fun b o hf => hG b o (e1.hF b o hf)) e1.hw⟩
  ·rw [htk] at hn'
   cases hn'
   exact ⟨by rw [List.length_append]; omega, fun _ => by simp only [updN_same]⟩
theorem opOk_appendW {o : Oper} {t : TypeId} {p q : Operand} {r : Nat} {rows rows2 : List (List D)} {k : Tok} {z : Value} (ho : o.op = .call { callee := .builtin .append, args := #[p, q], argTypes := #[t, t] }) (hp : σ.eval p = .grow r rows) (hq : (σ.eval q).rows = some rows2) (hr : σ.tok r = some k) (hex : k.ex = none)
  (ht : P.underlying t = some (.slice k.ty)) (hz : zeroOf P k.ty = some z) (hzs : z.cells.size = P.cellsOf k.ty) (h0 : P.cellsOf k.ty ≠ 0) (hst : P.cellsOf k.ty = k.st) (hby : P.bytesOf k.ty ≤ 1024) (hlen : rows.length = k.len) (hfit : rowsFit k.st rows2) (hfit0 : ∀ r ∈ rows, r.length = k.st) (hbd : rows.length + rows2.length ≤ 137438953472) :
  OpOk P A o σ (σ.setTok r (some { k with len := k.len + rows2.length })) (.grow r (rows ++ rows2)) := by
 refine opOk_run fun g a w hk => ?_
 have hpe := hk.eval p
 rw [hp] at hpe
 obtain ⟨g', v', w', h1, h2, h3⟩ := hk.appendedW (P := P) (t := t) (ty := o.type) hr hex hpe hlen ((hk.eval q).rows hq) ht hz hzs h0 hst hby hfit hfit0 hbd
 exact ⟨g', v', w', by simp only [execOp, ho, resolve, invoke, builtin, List.map_toArray, List.map_cons, List.map_nil, Sem.run_bind, Sem.run_pure, Result.andThen_ok, h1], h2, h3⟩
end
section
open Go Go.RowKit
def encIs (l : List Int) : List (List D) := l.map fun p => [.raw (.int .i64 p)]
theorem encIs_length (l : List Int) : (encIs l).length = l.length := by simp [encIs]
theorem encIs_fit (l : List Int) : rowsFit 1 (encIs l) := by
 intro r hr
 obtain ⟨p, _, rfl⟩ := List.mem_map.1 hr
 exact ⟨rfl, fun x hx => by simp only [List.mem_singleton] at hx; subst hx; rfl⟩
theorem encDs_fit (l : List Dc) : rowsFit 11 (encDs l) := by
 intro r hr
 obtain ⟨p, _, rfl⟩ := List.mem_map.1 hr
 exact ⟨rfl, fun x hx => by
  simp only [encD, List.mem_cons, List.not_mem_nil, or_false] at hx
  rcases hx with rfl | rfl | rfl | rfl | rfl | rfl | rfl | rfl | rfl | rfl | rfl <;> rfl⟩
def plN (t : List LTok) (n : Nat) : Int := (t.length - n : Nat)
def encSr (t : List LTok) (x : Sr × List Nat) : AV := .tup [avS x.1, .d (.sl (encIs (x.2.map (plN t))))]
abbrev srZ : Blk := .cell 26 [.d nilD, .d nilD]
abbrev srSt (s : RS) (us : List ByteArray) (ds : List Dc) (ps : List Int) : St := ⟨[(0, .box 901 0), (2, .box 0 0), (3, .d nilD), (4, .box 1000 0), (5, .grow 97 (encIs ps))], [(901, some (rdBlk s)), (0, some srZ), (1000, some (.cell 26 [.grow 98 (encS us), .grow 99 (encDs ds)]))], (rdL s).toks ++ [(97, some ⟨1, 3, ps.length, none⟩), (98, some ⟨1, 9, us.length, none⟩), (99, some ⟨11, 57, ds.length, none⟩)]⟩
theorem pUses_t {f : Nat} {l r : List KT} (h : l = (1, wUse) :: r) : pUses (f + 1) l = (pUse r).bind fun s r => (pUses f r).bind fun us r => (some (s :: us), r) := by
 rw [h, pUses, if_pos (show ((1, wUse) :: r : List KT).head? = some (wd wUse) from rfl)]
 unfold pUse
 rw [bind_assoc]
 show (pLab r).bind _ = _
 congr 1
 funext s r
 rw [bind_assoc]; rfl
theorem pUses_f {f : Nat} {l : List KT} (h : l.head? ≠ some (1, wUse)) : pUses f l = (some [], l) := by
 cases f with
 | zero => rfl
 | succ f => rw [pUses, if_neg (show ¬ l.head? = some (wd wUse) from h)]
theorem pLab_le (l : List KT) : (pLab l).2.length ≤ l.length := by
 cases l with
 | nil => simp [pLab]
 | cons y r => rw [pLab]; split <;> simp
theorem pUse_le (l : List KT) : (pUse l).2.length ≤ l.length := bind_le (pLab_le l) fun _ r h => bind_le (Nat.le_trans (eat_le _ r) h) fun _ _ h => h
theorem pSide_le (l : List KT) : (pSide l).2.length ≤ l.length := by
 cases l with
 | nil => simp [pSide]
 | cons y r =>
  rw [pSide]; split
  ·simp
  ·exact pName_le _
theorem pNames_le (l : List KT) : (pNames l).2.length ≤ l.length := by
 refine bind_le (pSide_le l) fun a r h => ?_
 split
 ·exact h
 ·exact bind_le (Nat.le_trans (eat_le _ r) h) fun _ r h => bind_le (Nat.le_trans (pSide_le r) h) fun _ r h => bind_le (Nat.le_trans (eat_le _ r) h) fun _ r h => bind_le (Nat.le_trans (pSide_le r) h) fun _ _ h => h
theorem pId_le (l : List KT) : (pId l).2.length ≤ l.length := by
 rw [pId]; split
 ·cases l with
  | nil => rename_i h; cases h
  | cons y r =>
   rw [List.tail_cons]
   cases r with
   | nil => simp [pPos]
   | cons z q => rw [pPos]; split <;> simp <;> omega
 ·exact Nat.le_refl _
theorem pFlag_le (w : List UInt8) (l : List KT) : (pFlag w l).2.length ≤ l.length := by
 rw [pFlag]; split
 ·simp
 ·exact Nat.le_refl _
theorem pKind_len {l r : List KT} {k : Int} (h : pKind l = (some k, r)) : l.length = r.length + 1 := by
 cases l with
 | nil => cases h
 | cons y q =>
  rw [pKind] at h
  repeat' split at h
  all_goals first | (cases h; rfl) | cases h
theorem pDecl_len {f : Nat} {l r : List KT} {d : Dc × Nat} (h : pDecl f l = (some d, r)) : r.length < l.length := by
 unfold pDecl pBody at h
 obtain ⟨k, q, h1, h2⟩ := bind_some_eq h
 have e1 := pKind_len h1
 have e2 := pFlag_le wPub (pFlag wConflict l).2
 have e3 := pFlag_le wConflict l
 have e4 : ((pNames q).bind fun ns r2 => (pId r2).bind fun i r3 => (eatT (sg [61]) r3).bind fun _ r4 => (pE f r4).bind fun e r5 => (eatT (sg [59]) r5).bind fun _ r6 => ((some (⟨i, k, (pFlag wPub (pFlag wConflict l).2).1, ns, (pFlag wConflict l).1, e⟩, q.length), r6) : PR (Dc × Nat))).2.length ≤ q.length :=
  bind_le (pNames_le q) fun _ r h => bind_le (Nat.le_trans (pId_le r) h) fun _ r h => bind_le (Nat.le_trans (eat_le _ r) h) fun _ r h => bind_le (Nat.le_trans (pE_le f r) h) fun _ r h => bind_le (Nat.le_trans (eat_le _ r) h) fun _ _ h => h
 rw [h2] at e4
 simp only at e4
 omega
set_option maxRecDepth 100000 in
set_option maxHeartbeats 32000000 in
theorem source_r (hN : HN) (hM : HM) (hI : HI) (s : RS) (t : List LTok) (hS : Rdy s t) :
  ConL Tryz.prog 29 [.box 901 0] (rdL s) (PostR t (pSrc (t.length + 1) (restK s)) (encSr t)) := by
 have hfw := hS.few
 have hrl : ∀ {s1 : RS}, Rdy s1 t → (restK s1).length ≤ t.length := fun {s1} h => by unfold restK; rw [List.length_map, List.length_drop, h.toks]; omega
 refine conL_of [901] [910, 911, 912, 913] Tryz.func29 rfl (by decide +kernel) (by simp [Tryz.ntmps29]) fun A hA => ?_
 rw [Tryz.ntmps29] at hA
 refine goMid 300 [0, 2, 3] [901, 0] [910, 911, 912, 913] (fun σ => σ = (⟨[(0, .box 901 0), (2, .box 0 0), (3, .d nilD)], [(901, some (rdBlk s)), (0, some srZ)], (rdL s).toks⟩ : St)) (by simp only [go_sem, hA]) ?_
 rintro σ rfl
 refine goMid 300 [0, 2, 3, 4] [901, 0, 1000] [910, 911, 912, 913] (fun σ => σ = (⟨[(0, .box 901 0), (2, .box 0 0), (3, .d nilD), (4, .box 1000 0)], [(901, some (rdBlk s)), (0, some srZ), (1000, some srZ)], (rdL s).toks⟩ : St)) (by simp only [go_sem, hA]) ?_
 rintro σ rfl
 refine goMid 300 [0, 2, 3, 4, 5] [901, 0, 1000] [910, 911, 912, 913] (fun σ => σ = (⟨[(0, .box 901 0), (2, .box 0 0), (3, .d nilD), (4, .box 1000 0), (5, .d nilD)], [(901, some (rdBlk s)), (0, some srZ), (1000, some srZ)], (rdL s).toks⟩ : St)) (by simp only [go_sem, hA]) ?_
 rintro σ rfl
 refine satC_growTmp 97 5 1 3 (by simp only [go_sem]) rfl ?_
 refine satC_growCell 98 1000 0 1 9 (by simp only [go_sem]) rfl rfl ?_
 refine satC_growCell 99 1000 1 11 57 (by simp only [go_sem]) rfl rfl ?_
 refine goMid 100600 [0, 2, 3, 4, 5] [901, 0, 1000] [910, 911, 912, 913, 97, 98, 99] (fun σ => ∃ us s1, pUses (t.length + 1) (restK s) = (some us, restK s1) ∧ Rdy s1 t ∧ σ = srSt s1 us [] []) ?_ ?_
 ·simp only [go_sem]
  refine satC_loop [0, 2, 3, 4, 5] [901, 0, 1000] [910, 911, 912, 913, 97, 98, 99] (fun n σ => ∃ k us s1, n = (restK s1).length ∧ n < k ∧ us.length + n ≤ t.length ∧ pUses (t.length + 1) (restK s) = (pUses k (restK s1)).bind (fun vs r => (some (us ++ vs), r)) ∧ Rdy s1 t ∧ σ = srSt s1 us [] []) (restK s).length ⟨t.length + 1, [], s, rfl, by have := hrl hS; omega, by have := hrl hS; simpa using this, by
   cases h : pUses (t.length + 1) (restK s) with
   | mk a r => cases a <;> rfl, hS, by simp only [go_sem]; rfl⟩ ?_
  rintro n σ ⟨k, us, s1, rfl, hk, hus, hp, hS1, rfl⟩
  have hat := hS1.at_
  obtain ⟨k, rfl⟩ : ∃ k', k = k' + 1 := ⟨k - 1, by omega⟩
  refine goC 100600 ?_
  simp only [go_sem, hA]
  refine goCallL [901] [910, 911, 912, 913] 100600 (is_r s1 1 ⟨#[117, 115, 101]⟩) rfl rfl rfl rfl rfl (by simp only [go_sem, hA]) (fun res L' h => ?_) (fun pv h => by cases h)
  cases h
  cases b1 : isR s1 1 ⟨#[117, 115, 101]⟩ with
  | false =>
   rw [pUses_f (is_f (w := wUse) b1), PR.bind_some, List.append_nil] at hp
   simp only [go_sem]
   exact ⟨us, s1, hp, hS1, rfl⟩
  | true =>
   obtain ⟨x, h1, h2, h3⟩ := hS1.is_t (w := wUse) b1
   rw [pUses_t h2] at hp
   simp only [go_sem, hA]
   refine ⟨by unfold inI64; omega, ?_⟩
   refine goDrawnL 100600 mixed ?_
   refine dCall 3 [3, 4, 5, 6, 7] [901] [910, 911, 912, 913] (use_r (adv s1 1) t h3) [] rfl rfl rfl (by kernel_rfl) rfl (by simp only [go_sem]) (by kernel_rfl) (by simp only [go_sem, hA]) ?_
   simp only [go_sem, hA]
   refine ⟨by kernel_rfl, fun y L' h => ?_, fun pv h => ?_⟩
   rotate_left
   ·obtain ⟨r, e1, e2⟩ := h.pan
    subst e2
    exact ⟨_, rfl, by unfold pSrc; rw [hp, e1]; rfl⟩
   obtain ⟨u, s2, e1, rfl, rfl, hS2⟩ := h.ret
   rw [e1, PR.bind_some, bind_assoc] at hp
   have hle := pUse_le (restK (adv s1 1))
   rw [e1] at hle
   rw [h2, List.length_cons] at hk hus
   refine dFin ?_
   simp only [go_sem, hA]
   have hst : srSt s2 (us ++ [u]) [] [] = (⟨[(0, .box 901 0), (2, .box 0 0), (3, .d nilD), (4, .box 1000 0), (5, .grow 97 (encIs []))], [(901, some (rdBlk s2)), (0, some srZ), (1000, some (.cell 26 [.grow 98 (encS us ++ [[.raw (.string u)]]), .grow 99 (encDs [])]))], (rdL s2).toks ++ [(97, some ⟨1, 3, 0, none⟩), (98, some ⟨1, 9, us.length + 1, none⟩), (99, some ⟨11, 57, 0, none⟩)]⟩ : St) := by
    unfold srSt; rw [← encS_append, List.length_append]; rfl
   refine ⟨⟨encS_length us, encS_fit [u], encS_row us, by rw [encS_length]; omega⟩, by kernel_rfl, (restK s2).length, by rw [h2, List.length_cons]; simp only at hle; omega, k, us ++ [u], s2, rfl, by simp only at hle; omega, by rw [List.length_append, List.length_singleton]; simp only at hle; omega, ?_, hS2, hst.symm⟩
   rw [hp]
   congr 1
   funext vs r
   show (some (us ++ u :: vs), r) = _
   rw [List.append_assoc]; rfl
 rintro σ ⟨us, sU, hus, hSU, rfl⟩
 have hP : pSrc (t.length + 1) (restK s) = (pDecls (t.length + 1) (t.length + 1) (restK sU)).bind fun ds r => (some (⟨us, ds.map Prod.fst⟩, ds.map Prod.snd), r) := by unfold pSrc; rw [hus]; rfl
 rw [hP]
 refine goMid 100600 [0, 2, 3, 4, 5] [901, 0, 1000] [910, 911, 912, 913, 97, 98, 99] (fun σ => ∃ ds sV, pDecls (t.length + 1) (t.length + 1) (restK sU) = (some ds, restK sV) ∧ Rdy sV t ∧ σ = srSt sV us (ds.map Prod.fst) (ds.map fun d => plN t d.2)) ?_ ?_
 ·simp only [go_sem]
  refine satC_loop [0, 2, 3, 4, 5] [901, 0, 1000] [910, 911, 912, 913, 97, 98, 99] (fun n σ => ∃ k ds s1, n = (restK s1).length ∧ n ≤ k ∧ ds.length + n ≤ t.length ∧ pDecls (t.length + 1) (t.length + 1) (restK sU) = (pDecls (t.length + 1) k (restK s1)).bind (fun vs r => (some (ds ++ vs), r)) ∧ Rdy s1 t ∧ σ = srSt s1 us (ds.map Prod.fst) (ds.map fun d => plN t d.2)) (restK sU).length ⟨t.length + 1, [], sU, rfl, by have := hrl hSU; omega, by have := hrl hSU; simpa using this, by
   cases h : pDecls (t.length + 1) (t.length + 1) (restK sU) with
   | mk a r => cases a <;> rfl, hSU, by simp only [go_sem]; rfl⟩ ?_
  rintro n σ ⟨k, ds, s1, rfl, hk, hds, hp, hS1, rfl⟩
  have hat := hS1.at_
  have hpos := hS1.pos
  refine goC 100600 ?_
  simp only [go_sem]
  refine goDr 100600 mixed ?_
  rcases hS1.cases with ⟨h1, h2⟩ | ⟨x, h1, h2, h3⟩
  ·rw [h2] at hp
   have hlt : ¬ s1.at_ < s1.toks.length := fun h => by rw [List.getElem?_eq_getElem h] at h1; cases h1
   have d1 : decide ((s1.at_ : Int) < (s1.toks.length : Int)) = false := decide_eq_false (by omega)
   simp only [go_sem, hA, encTs_length, d1]
   refine ⟨by kernel_rfl, ds, s1, ?_, hS1, rfl⟩
   rw [hp, h2]
   cases k <;> (show (some (ds ++ []), []) = _; rw [List.append_nil])
  ·have hlt := (List.getElem?_eq_some_iff.1 h1).1
   have d1 : decide ((s1.at_ : Int) < (s1.toks.length : Int)) = true := decide_eq_true (by omega)
   obtain ⟨k, rfl⟩ : ∃ k', k = k' + 1 := ⟨k - 1, by rw [h2, List.length_cons] at hk; omega⟩
   simp only [go_sem, hA, encTs_length, d1]
   refine ⟨by kernel_rfl, ?_⟩
   have hpd : pDecls (t.length + 1) (k + 1) (restK s1) = (pDecl (t.length + 1) (restK s1)).bind fun d r => (pDecls (t.length + 1) k r).bind fun ds r => (some (d :: ds), r) := by rw [h2]; rfl
   rw [hpd] at hp
   refine goCallL [901] [910, 911, 912, 913] 44 (decl_r hN hM hI s1 t hS1) rfl rfl rfl rfl rfl (by simp only [go_sem, hA]) (fun res L' h => ?_) (fun pv h => ?_)
   rotate_left
   ·obtain ⟨r, e1, e2⟩ := h.pan
    subst e2
    exact ⟨_, rfl, by rw [hp, e1]; rfl⟩
   obtain ⟨d, s2, e1, rfl, rfl, hS2⟩ := h.ret
   rw [e1, PR.bind_some, bind_assoc] at hp
   have hlen := pDecl_len e1
   have hDl : (encDs (ds.map Prod.fst)).length = ds.length := by rw [encDs_length, List.length_map]
   have hIl : (encIs (ds.map fun d => plN t d.2)).length = ds.length := by rw [encIs_length, List.length_map]
   simp only [go_sem, hA, encDN, avD]
   refine goStep 300 (by simp only [go_sem]) (opOk_appendW (rows2 := encDs [d.1]) (k := ⟨11, 57, (ds.map Prod.fst).length, none⟩) rfl rfl rfl rfl rfl (by kernel_rfl) zero_57 (by kernel_rfl) (by rw [show Tryz.prog.cellsOf 57 = 11 by kernel_rfl]; decide) (by kernel_rfl) (by rw [show Tryz.prog.bytesOf 57 = 136 by kernel_rfl]; decide) (encDs_length _) (encDs_fit _) (fun r hr => (encDs_fit _ r hr).1) (by rw [hDl, encDs_length, List.length_singleton]; omega)) (by simp only [go_sem, hA]) ?_
   simp only [go_sem, hA]
   have hst : srSt s2 us ((ds ++ [d]).map Prod.fst) ((ds ++ [d]).map fun d => plN t d.2) = (⟨[(0, .box 901 0), (2, .box 0 0), (3, .d nilD), (4, .box 1000 0), (5, .grow 97 (encIs (ds.map fun d => plN t d.2) ++ [[.raw (.int .i64 (plN t d.2))]]))], [(901, some (rdBlk s2)), (0, some srZ), (1000, some (.cell 26 [.grow 98 (encS us), .grow 99 (encDs (ds.map Prod.fst) ++ encDs [d.1])]))], (rdL s2).toks ++ [(97, some ⟨1, 3, (ds.map fun d => plN t d.2).length + 1, none⟩), (98, some ⟨1, 9, us.length, none⟩), (99, some ⟨11, 57, (ds.map Prod.fst).length + (encDs [d.1]).length, none⟩)]⟩ : St) := by
    unfold srSt
    simp only [List.map_append, List.map_cons, List.map_nil, encDs, encIs, List.length_append, List.length_map, List.length_cons, List.length_nil]
   refine ⟨⟨by rw [encIs_length], encIs_fit [plN t d.2], fun r hr => (encIs_fit _ r hr).1, by rw [hIl]; omega⟩, (restK s2).length, hlen, k, ds ++ [d], s2, rfl, by omega, by rw [List.length_append, List.length_singleton]; omega, ?_, hS2, hst.symm⟩
   rw [hp]
   congr 1
   funext vs r
   show (some (ds ++ d :: vs), r) = _
   rw [List.append_assoc]; rfl
 rintro σ ⟨ds, sV, hds, hSV, rfl⟩
 rw [hds]
 refine goC 300 ?_
 simp only [go_sem, hA, Tryz.results29]
 exact ⟨_, rfl, rfl, sV, by unfold encSr; rw [List.map_map]; rfl, hSV, rfl⟩
end
section
open Go Go.RowKit
theorem bind_get {α β : Type} {x : PR α} {f : α → List KT → PR β} {b : β} {r : List KT} (h : x.bind f = (some b, r)) : ∃ a q, x = (some a, q) ∧ f a q = (some b, r) := by
 obtain ⟨o, q⟩ := x
 cases o with
 | none => cases h
 | some a => exact ⟨a, q, rfl, h⟩
def Few (pe : List KT → PR Ex) : Prop := ∀ l t r, pe l = (some t, r) → nodesE t + r.length ≤ l.length
theorem eat_few {x : KT} {l r : List KT} {u : Unit} (h : eatT x l = (some u, r)) : r.length + 1 = l.length := by
 cases l with
 | nil => cases h
 | cons y q => rw [eatT] at h; split at h <;> cases h; rfl
theorem name_few {l r : List KT} {u : ByteArray} (h : pName l = (some u, r)) : r.length + 1 = l.length := by
 cases l with
 | nil => cases h
 | cons y q => rw [pName] at h; split at h <;> cases h; rfl
theorem num_few {l r : List KT} {u : Int} (h : pNum l = (some u, r)) : r.length + 1 = l.length := by
 cases l with
 | nil => cases h
 | cons y q => rw [pNum] at h; split at h <;> cases h; rfl
theorem leaf_few : Few pLeaf := fun l t r h => by
 cases l with
 | nil => cases h
 | cons y q =>
  have hd : ∀ n t r, pDot n q = (some t, r) → nodesE t + r.length ≤ q.length + 1 := fun n t r h => by
   cases q with
   | nil => cases h; simp [nodesE, nodesL]
   | cons z q =>
    rw [pDot] at h
    split at h
    ·obtain ⟨m, s, h1, h2⟩ := bind_get h
     have := name_few h1
     cases h2
     simp only [nodesE, nodesL, List.length_cons]; omega
    ·cases h; simp only [nodesE, nodesL, List.length_cons]; omega
  rw [pLeaf] at h
  repeat' split at h
  all_goals first
   | (cases h; done)
   | (cases h; simp only [nodesE, nodesL, List.length_cons]; omega)
   | (have := hd _ _ _ h; rw [List.length_cons]; omega)
theorem tail_few {pe : List KT → PR Ex} (hf : Few pe) (a : Ex) (l : List KT) (t : Ex) (r : List KT) (h : pTail pe a l = (some t, r)) : nodesE t + r.length ≤ l.length + nodesE a + 1 := by
 cases l with
 | nil =>
  rw [pTail] at h
  obtain ⟨b, q, h1, h2⟩ := bind_get h
  have := hf _ _ _ h1
  cases h2
  simp only [nodesE, nodesL]; omega
 | cons z s =>
  rw [pTail] at h
  repeat' split at h
  all_goals
   obtain ⟨b, q, h1, h2⟩ := bind_get h
   have := hf _ _ _ h1
   cases h2
   simp only [nodesE, nodesL, List.length_cons] at this ⊢; omega
theorem in_few {pe : List KT → PR Ex} (hf : Few pe) (l : List KT) (t : Ex) (r : List KT) (h : pIn pe l = (some t, r)) : nodesE t + r.length ≤ l.length + 1 := by
 have hb : ∀ l : List KT, (pe l).bind (fun a r => pTail pe a r) = (some t, r) → nodesE t + r.length ≤ l.length + 1 := fun l h => by
  obtain ⟨b, q, h1, h2⟩ := bind_get h
  have h3 := hf _ _ _ h1
  have h4 := tail_few hf _ _ _ _ h2
  omega
 cases l with
 | nil => rw [pIn] at h; exact hb _ h
 | cons y s =>
  rw [pIn] at h
  split at h
  ·unfold pFun at h
   obtain ⟨n, q, h1, h⟩ := bind_get h
   obtain ⟨u, q2, h2, h⟩ := bind_get h
   obtain ⟨a, q3, h3, h⟩ := bind_get h
   have := name_few h1
   have := eat_few h2
   have := hf _ _ _ h3
   cases h
   simp only [nodesE, nodesL, List.length_cons]; omega
  split at h
  ·unfold pLet at h
   obtain ⟨n, q, h1, h⟩ := bind_get h
   obtain ⟨u, q2, h2, h⟩ := bind_get h
   obtain ⟨a, q3, h3, h⟩ := bind_get h
   obtain ⟨u4, q4, h4, h⟩ := bind_get h
   obtain ⟨b, q5, h5, h⟩ := bind_get h
   have := name_few h1
   have := eat_few h2
   have := hf _ _ _ h3
   have := eat_few h4
   have := hf _ _ _ h5
   cases h
   simp only [nodesE, nodesL, List.length_cons]; omega
  split at h
  ·unfold pIf at h
   obtain ⟨a, q1, h1, h⟩ := bind_get h
   obtain ⟨u2, q2, h2, h⟩ := bind_get h
   obtain ⟨b, q3, h3, h⟩ := bind_get h
   obtain ⟨u4, q4, h4, h⟩ := bind_get h
   obtain ⟨c, q5, h5, h⟩ := bind_get h
   have := hf _ _ _ h1
   have := eat_few h2
   have := hf _ _ _ h3
   have := eat_few h4
   have := hf _ _ _ h5
   cases h
   simp only [nodesE, nodesL, List.length_cons]; omega
  split at h
  ·unfold pCase at h
   obtain ⟨a, q1, h1, h⟩ := bind_get h
   obtain ⟨u2, q2, h2, h⟩ := bind_get h
   obtain ⟨u3, q3, h3, h⟩ := bind_get h
   obtain ⟨u4, q4, h4, h⟩ := bind_get h
   obtain ⟨b, q5, h5, h⟩ := bind_get h
   obtain ⟨u6, q6, h6, h⟩ := bind_get h
   obtain ⟨n, q7, h7, h⟩ := bind_get h
   obtain ⟨u8, q8, h8, h⟩ := bind_get h
   obtain ⟨m, q9, h9, h⟩ := bind_get h
   obtain ⟨u10, q10, h10, h⟩ := bind_get h
   obtain ⟨c, q11, h11, h⟩ := bind_get h
   have := hf _ _ _ h1
   have := eat_few h2
   have := eat_few h3
   have := eat_few h4
   have := hf _ _ _ h5
   have := eat_few h6
   have := name_few h7
   have := eat_few h8
   have := name_few h9
   have := eat_few h10
   have := hf _ _ _ h11
   cases h
   simp only [nodesE, nodesL, List.length_cons]; omega
  split at h
  ·unfold pChance at h
   obtain ⟨a, q1, h1, h⟩ := bind_get h
   obtain ⟨u2, q2, h2, h⟩ := bind_get h
   obtain ⟨b, q3, h3, h⟩ := bind_get h
   have := num_few h1
   have := eat_few h2
   have := num_few h3
   cases h
   simp only [nodesE, nodesL, List.length_cons]; omega
  split at h
  ·unfold pSum at h
   obtain ⟨a, q1, h1, h⟩ := bind_get h
   obtain ⟨u2, q2, h2, h⟩ := bind_get h
   obtain ⟨b, q3, h3, h⟩ := bind_get h
   obtain ⟨u4, q4, h4, h⟩ := bind_get h
   obtain ⟨c, q5, h5, h⟩ := bind_get h
   have := hf _ _ _ h1
   have := eat_few h2
   have := hf _ _ _ h3
   have := eat_few h4
   have := hf _ _ _ h5
   cases h
   simp only [nodesE, nodesL, List.length_cons]; omega
  ·exact hb _ h
theorem pE_few : ∀ f, Few (pE f)
 | 0 => fun l t r h => by cases h
 | f + 1 => fun l t r h => by
  cases l with
  | nil => cases h
  | cons y q =>
   rw [pE] at h
   split at h
   ·obtain ⟨e, q1, h1, h⟩ := bind_get h
    obtain ⟨u, q2, h2, h⟩ := bind_get h
    have := in_few (pE_few f) _ _ _ h1
    have := eat_few h2
    cases h
    simp only [List.length_cons]; omega
   ·exact leaf_few _ _ _ h
theorem decl_few {f : Nat} {l r : List KT} {d : Dc × Nat} (h : pDecl f l = (some d, r)) : nodesE d.1.body ≤ l.length := by
 unfold pDecl pBody at h
 obtain ⟨k, q1, h1, h⟩ := bind_get h
 obtain ⟨ns, q2, h2, h⟩ := bind_get h
 obtain ⟨i, q3, h3, h⟩ := bind_get h
 obtain ⟨u4, q4, h4, h⟩ := bind_get h
 obtain ⟨e, q5, h5, h⟩ := bind_get h
 obtain ⟨u6, q6, h6, h⟩ := bind_get h
 have e0 : (pFlag wPub (pFlag wConflict l).2).2.length ≤ l.length := by
  unfold pFlag
  repeat' split
  all_goals simp only [List.length_tail]
  all_goals omega
 have e1 : q1.length ≤ (pFlag wPub (pFlag wConflict l).2).2.length := by
  cases hl : (pFlag wPub (pFlag wConflict l).2).2 with
  | nil => rw [hl] at h1; cases h1
  | cons y q =>
   rw [hl, pKind] at h1
   repeat' split at h1
   all_goals first | (cases h1; simp) | cases h1
 have eS : ∀ {l r : List KT} {a : ByteArray}, pSide l = (some a, r) → r.length ≤ l.length := fun {l r a} h => by
  cases l with
  | nil => cases h
  | cons y q =>
   rw [pSide] at h
   split at h
   ·cases h; simp
   ·have := name_few h; omega
 have e2 : q2.length ≤ q1.length := by
  unfold pNames at h2
  obtain ⟨a, s1, g1, h2⟩ := bind_get h2
  have := eS g1
  split at h2
  ·cases h2; exact this
  ·obtain ⟨_, s2, g2, h2⟩ := bind_get h2
   obtain ⟨_, s3, g3, h2⟩ := bind_get h2
   obtain ⟨_, s4, g4, h2⟩ := bind_get h2
   obtain ⟨_, s5, g5, h2⟩ := bind_get h2
   have := eat_few g2
   have := eS g3
   have := eat_few g4
   have := eS g5
   cases h2
   omega
 have e3 : q3.length ≤ q2.length := by
  unfold pId at h3
  split at h3
  ·cases hq : q2.tail with
   | nil => rw [hq] at h3; cases h3
   | cons y s =>
    rw [hq, pPos] at h3
    have : (y :: s).length ≤ q2.length := by rw [← hq, List.length_tail]; omega
    split at h3
    ·cases h3; rw [List.length_cons] at this; omega
    ·cases h3
  ·cases h3; exact Nat.le_refl _
 have := eat_few h4
 have := pE_few f _ _ _ h5
 cases h
 simp only
 omega
theorem pSide_le2 (l : List KT) : (pSide l).2.length ≤ l.length := by
 cases l with
 | nil => simp [pSide]
 | cons y r =>
  rw [pSide]; split
  ·simp
  ·exact pName_le _
theorem pDecl_le (f : Nat) (l : List KT) : (pDecl f l).2.length ≤ l.length := by
 have e0 : (pFlag wPub (pFlag wConflict l).2).2.length ≤ l.length := by
  unfold pFlag
  repeat' split
  all_goals simp only [List.length_tail]
  all_goals omega
 refine Nat.le_trans ?_ e0
 unfold pDecl pBody
 refine bind_le ?_ fun k q1 h1 => bind_le (Nat.le_trans ?_ h1) fun ns q2 h2 => bind_le (Nat.le_trans ?_ h2) fun i q3 h3 => bind_le (Nat.le_trans (eat_le _ _) h3) fun _ q4 h4 => bind_le (Nat.le_trans (pE_le f _) h4) fun e q5 h5 => bind_le (Nat.le_trans (eat_le _ _) h5) fun _ q6 h6 => h6
 ·cases (pFlag wPub (pFlag wConflict l).2).2 with
  | nil => simp [pKind]
  | cons y q =>
   rw [pKind]
   repeat' split
   all_goals simp
 ·unfold pNames
  refine bind_le (pSide_le2 _) fun a s1 g1 => ?_
  split
  ·exact g1
  ·exact bind_le (Nat.le_trans (eat_le _ _) g1) fun _ _ g2 => bind_le (Nat.le_trans (pSide_le2 _) g2) fun _ _ g3 => bind_le (Nat.le_trans (eat_le _ _) g3) fun _ _ g4 => bind_le (Nat.le_trans (pSide_le2 _) g4) fun _ _ g5 => g5
 ·unfold pId
  split
  ·cases hq : q2.tail with
   | nil => simp [pPos]
   | cons y s =>
    have : (y :: s).length ≤ q2.length := by rw [← hq, List.length_tail]; omega
    rw [pPos]
    split
    ·rw [List.length_cons] at this; simp only; omega
    ·exact this
  ·exact Nat.le_refl _
theorem pUses_le : ∀ (f : Nat) (l : List KT), (pUses f l).2.length ≤ l.length
 | 0, l => Nat.le_refl _
 | f + 1, l => by
  rw [pUses]
  split
  ·have h1 : (pLab l.tail).2.length ≤ l.length := by
    have : l.tail.length ≤ l.length := by rw [List.length_tail]; omega
    cases hl : l.tail with
    | nil => simp [pLab]
    | cons y q =>
     rw [hl, List.length_cons] at this
     rw [pLab]
     split
     ·simp only; omega
     ·simp only [List.length_cons]; omega
   exact bind_le h1 fun _ _ h2 => bind_le (Nat.le_trans (eat_le _ _) h2) fun _ q h3 => bind_le (Nat.le_trans (pUses_le f q) h3) fun _ _ h4 => h4
  ·exact Nat.le_refl _
theorem decls_few (f : Nat) : ∀ (g : Nat) (l r : List KT) (ds : List (Dc × Nat)) (n : Nat), l.length ≤ n → pDecls f g l = (some ds, r) → ∀ d ∈ ds, nodesE d.1.body ≤ n
 | 0, [], r, ds, n, _, h => by
  cases h
  intro d hd; cases hd
 | _ + 1, [], r, ds, n, _, h => by
  cases h
  intro d hd; cases hd
 | 0, y :: l, r, ds, n, _, h => by cases h
 | g + 1, y :: l, r, ds, n, hn, h => by
  rw [pDecls] at h
  obtain ⟨d, q, h1, h⟩ := bind_get h
  obtain ⟨es, q2, h2, h⟩ := bind_get h
  cases h
  have h3 := decl_few h1
  have h4 : q.length ≤ n := by
   have h5 := pDecl_le f (y :: l)
   rw [h1] at h5
   exact Nat.le_trans h5 hn
  intro e he
  rcases List.mem_cons.1 he with rfl | he
  ·omega
  ·exact decls_few f g q r es n h4 h2 e he
theorem src_few {f : Nat} {l r : List KT} {x : Sr} {ps : List Nat} (h : pSrc f l = (some (x, ps), r)) : ∀ d ∈ x.decls, nodesE d.body ≤ l.length := by
 unfold pSrc at h
 obtain ⟨us, q, h1, h⟩ := bind_get h
 obtain ⟨ds, q2, h2, h⟩ := bind_get h
 cases h
 have h3 : q.length ≤ l.length := by
  have := pUses_le f l
  rw [h1] at this
  exact this
 intro d hd
 obtain ⟨e, he, rfl⟩ := List.mem_map.1 hd
 exact decls_few f f q r ds _ h3 h2 e he
end
section
open Go Go.RowKit
abbrev rs0 (t : List LTok) : RS := ⟨t, 0, ⟨0, 0, []⟩, ⟨0, 0, []⟩, ⟨0, 0, []⟩, ⟨0, 0, []⟩⟩
theorem rdy0 (t : List LTok) (h : t.length ≤ 1048576) : Rdy (rs0 t) t := ⟨rfl, Nat.zero_le _, h, ⟨⟨rfl, rfl⟩, ⟨rfl, rfl⟩, ⟨rfl, rfl⟩, ⟨rfl, rfl⟩⟩⟩
abbrev rBox : Blk := .cell 58 [.box 901 0]
abbrev srB (x : Sr) : Blk := .cell 26 [.d (.sl (encS x.uses)), .d (.sl (encDs x.decls))]
abbrev iZ : Blk := .cell 60 [.d nilD]
abbrev iB (t : List LTok) (ps : List Nat) : Blk := .cell 60 [.d (.sl (encIs (ps.map (plN t))))]
abbrev paL (s : RS) (b c : Blk) : Lent := ⟨[(901, some (rdBlk s)), (902, some rBox), (904, some b), (905, some c)], (rdL s).toks⟩
def postPa (t : List LTok) (x : PR (Sr × List Nat)) (o : Out) : Prop := match x with
 | (some y, r) => ∃ s', o = .ret (.tup []) (paL s' (srB y.1) (iB t y.2)) ∧ Rdy s' t ∧ restK s' = r
 | (none, r) => o = .pan (pvA (t.length - r.length))
set_option maxRecDepth 100000 in
set_option maxHeartbeats 8000000 in
theorem parse1_c (hN : HN) (hM : HM) (hI : HI) (s : RS) (t : List LTok) (hS : Rdy s t) :
  ConL Tryz.prog 28 [.box 902 0, .box 904 0, .box 905 0] (paL s srZ iZ) (postPa t (pSrc (t.length + 1) (restK s))) := by
 refine conL_of [901, 902, 904, 905] [910, 911, 912, 913] Tryz.func28 rfl (by decide +kernel) (by simp [Tryz.ntmps28]) fun A hA => ?_
 rw [Tryz.ntmps28] at hA
 refine goC 300 ?_
 simp only [go_sem, hA]
 refine goCallL [901] [910, 911, 912, 913] 300 (source_r hN hM hI s t hS) rfl rfl rfl rfl rfl (by simp only [go_sem, hA]) (fun res L' h => ?_) (fun pv h => ?_)
 rotate_left
 ·obtain ⟨r, e1, e2⟩ := h.pan
  subst e2
  exact ⟨_, rfl, by rw [e1]; rfl⟩
 obtain ⟨x, s', e1, rfl, rfl, hS'⟩ := h.ret
 simp only [go_sem, hA, encSr, avS, Tryz.results28]
 refine ⟨_, rfl, rfl, ?_⟩
 rw [e1]
 exact ⟨s', rfl, hS', rfl⟩
end
end Go.Proofs.YtnnolijagpakiaaGreatDoor
namespace Go.Proofs
open Go.Shelf
def Tryz.lays172_ren : Go.Shelf.Ren := ⟨fun | 172 => 137 | 244 => 171 | 245 => 172 | 247 => 181 | 279 => 182 | 280 => 183 | 281 => 184 | 282 => 185 | 287 => 196 | 316 => 197 | 171 => 91 | 205 => 198 | 321 => 205 | 322 => 206 | 243 => 152 | 246 => 174 | 283 => 186 | 284 => 187 | 285 => 188 | 286 => 189 | 129 => 200 | 317 => 199 | 318 => 201 | 319 => 202 | 320 => 203 | 337 => 207 | 338 => 208 | n => n, fun | 9 => 9 | 3 => 3 | 75 => 93 | 76 => 94 | 4 => 4 | 5 => 5 | 167 => 186 | 37 => 51 | 0 => 0 | 85 => 187 | 2 => 2 | 168 => 189 | 53 => 193 | 175 => 201 | 46 => 199 | 210 => 204 | 127 => 137 | 145 => 221 | 143 => 219 | 21 => 21 | 171 => 192 | 173 => 196 | 212 => 207 | 51 => 208 | 20 => 20 | 213 => 209 | 232 => 223 | 233 => 224 | 80 => 98 | n => n, fun | 15 => 1 | 16 => 2 | 17 => 3 | 18 => 6 | 19 => 7 | n => n⟩
theorem Tryz.lays172 : Go.Proofs.Lays.n172 Tryz.prog Tryz.lays172_ren := {
 mixed := by kernel_rfl
 f129 := Tryz.func200.trans (congrArg some (by kernel_rfl))
 f171 := Tryz.func91.trans (congrArg some (by kernel_rfl))
 f172 := Tryz.func137.trans (congrArg some (by kernel_rfl))
 f205 := Tryz.func198.trans (congrArg some (by kernel_rfl))
 f243 := Tryz.func152.trans (congrArg some (by kernel_rfl))
 f244 := Tryz.func171.trans (congrArg some (by kernel_rfl))
 f245 := Tryz.func172.trans (congrArg some (by kernel_rfl))
 f246 := Tryz.func174.trans (congrArg some (by kernel_rfl))
 f247 := Tryz.func181.trans (congrArg some (by kernel_rfl))
 f279 := Tryz.func182.trans (congrArg some (by kernel_rfl))
 f280 := Tryz.func183.trans (congrArg some (by kernel_rfl))
 f281 := Tryz.func184.trans (congrArg some (by kernel_rfl))
 f282 := Tryz.func185.trans (congrArg some (by kernel_rfl))
 f283 := Tryz.func186.trans (congrArg some (by kernel_rfl))
 f284 := Tryz.func187.trans (congrArg some (by kernel_rfl))
 f285 := Tryz.func188.trans (congrArg some (by kernel_rfl))
 f286 := Tryz.func189.trans (congrArg some (by kernel_rfl))
 f287 := Tryz.func196.trans (congrArg some (by kernel_rfl))
 f316 := Tryz.func197.trans (congrArg some (by kernel_rfl))
 f317 := Tryz.func199.trans (congrArg some (by kernel_rfl))
 f318 := Tryz.func201.trans (congrArg some (by kernel_rfl))
 f319 := Tryz.func202.trans (congrArg some (by kernel_rfl))
 f320 := Tryz.func203.trans (congrArg some (by kernel_rfl))
 f321 := Tryz.func205.trans (congrArg some (by kernel_rfl))
 f322 := Tryz.func206.trans (congrArg some (by kernel_rfl))
 f337 := Tryz.func207.trans (congrArg some (by kernel_rfl))
 f338 := Tryz.func208.trans (congrArg some (by kernel_rfl))
 t0 := Tryz.underlying0
 a0 := Tryz.isAgg0
 z0 := Tryz.sizeOf0
 v0 := Tryz.zeroValue0
 t2 := Tryz.underlying2
 a2 := Tryz.isAgg2
 z2 := Tryz.sizeOf2
 v2 := Tryz.zeroValue2
 t3 := Tryz.underlying3
 a3 := Tryz.isAgg3
 z3 := Tryz.sizeOf3
 v3 := Tryz.zeroValue3
 t4 := Tryz.underlying4
 a4 := Tryz.isAgg4
 z4 := Tryz.sizeOf4
 v4 := Tryz.zeroValue4
 t5 := Tryz.underlying5
 a5 := Tryz.isAgg5
 z5 := Tryz.sizeOf5
 v5 := Tryz.zeroValue5
 t9 := Tryz.underlying9
 a9 := Tryz.isAgg9
 z9 := Tryz.sizeOf9
 v9 := Tryz.zeroValue9
 t20 := Tryz.underlying20
 a20 := Tryz.isAgg20
 z20 := Tryz.sizeOf20
 v20 := Tryz.zeroValue20
 t21 := Tryz.underlying21
 a21 := Tryz.isAgg21
 z21 := Tryz.sizeOf21
 v21 := Tryz.zeroValue21
 t37 := Tryz.underlying51
 a37 := Tryz.isAgg51
 z37 := Tryz.sizeOf51
 v37 := Tryz.zeroValue51
 t46 := Tryz.underlying199
 a46 := Tryz.isAgg199
 z46 := Tryz.sizeOf199
 v46 := Tryz.zeroValue199
 t51 := Tryz.underlying208
 a51 := Tryz.isAgg208
 z51 := Tryz.sizeOf208
 v51 := Tryz.zeroValue208
 t53 := Tryz.underlying193
 a53 := Tryz.isAgg193
 z53 := Tryz.sizeOf193
 v53 := Tryz.zeroValue193
 t75 := Tryz.underlying93
 a75 := Tryz.isAgg93
 z75 := Tryz.sizeOf93
 v75 := Tryz.zeroValue93
 t76 := Tryz.underlying94
 a76 := Tryz.isAgg94
 z76 := Tryz.sizeOf94
 v76 := Tryz.zeroValue94
 t85 := Tryz.underlying187
 a85 := Tryz.isAgg187
 z85 := Tryz.sizeOf187
 v85 := Tryz.zeroValue187
 t127 := Tryz.underlying137
 a127 := Tryz.isAgg137
 z127 := Tryz.sizeOf137
 v127 := Tryz.zeroValue137
 t143 := Tryz.underlying219
 a143 := Tryz.isAgg219
 z143 := Tryz.sizeOf219
 v143 := Tryz.zeroValue219
 t145 := Tryz.underlying221
 a145 := Tryz.isAgg221
 z145 := Tryz.sizeOf221
 v145 := Tryz.zeroValue221
 t167 := Tryz.underlying186
 a167 := Tryz.isAgg186
 z167 := Tryz.sizeOf186
 v167 := Tryz.zeroValue186
 t168 := Tryz.underlying189
 a168 := Tryz.isAgg189
 z168 := Tryz.sizeOf189
 v168 := Tryz.zeroValue189
 t171 := Tryz.underlying192
 a171 := Tryz.isAgg192
 z171 := Tryz.sizeOf192
 v171 := Tryz.zeroValue192
 t173 := Tryz.underlying196
 a173 := Tryz.isAgg196
 z173 := Tryz.sizeOf196
 v173 := Tryz.zeroValue196
 t175 := Tryz.underlying201
 a175 := Tryz.isAgg201
 z175 := Tryz.sizeOf201
 v175 := Tryz.zeroValue201
 t210 := Tryz.underlying204
 a210 := Tryz.isAgg204
 z210 := Tryz.sizeOf204
 v210 := Tryz.zeroValue204
 t212 := Tryz.underlying207
 a212 := Tryz.isAgg207
 z212 := Tryz.sizeOf207
 v212 := Tryz.zeroValue207
 t213 := Tryz.underlying209
 a213 := Tryz.isAgg209
 z213 := Tryz.sizeOf209
 t232 := Tryz.underlying223
 a232 := Tryz.isAgg223
 z232 := Tryz.sizeOf223
 v232 := Tryz.zeroValue223
 t233 := Tryz.underlying224
 a233 := Tryz.isAgg224
 z233 := Tryz.sizeOf224
 v233 := Tryz.zeroValue224
 g15 := by kernel_rfl
 g16 := by kernel_rfl
 g17 := by kernel_rfl
 g18 := by kernel_rfl
 g19 := by kernel_rfl }
open Go.RowKit in
theorem Tryz.strconv_Atoi (s : ByteArray) (n : Int) (hl : s.size ≤ 18) (h : Lib.atoi s.data.toList = some n) (w : World) :
  Calls Tryz.prog 137 #[.string s] w fun e w' => e = .returned (.tuple #[.int .i64 n, .nilIface]) ∧ ∃ t, w' = Lib.bytesWorld w 5 t := Any.strconv_Atoi Tryz.lays172 s n hl h w
end Go.Proofs
