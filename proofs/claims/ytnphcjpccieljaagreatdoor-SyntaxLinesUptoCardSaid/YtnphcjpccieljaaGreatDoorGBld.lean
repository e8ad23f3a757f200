/- strings.Builder: what WriteString does to a builder that the call has made itself, told block by block. The first part follows the kit's own shelf texts, over this dump (whose copyCheck bears a statement that the loader refuses, so that the shelf's contract is not laid). A strings.Builder of the function's own, in a walk by trees: WriteString, Len, String. -/
import Derived.Test.YtnphcjpccieljaaGreatDoorShelf
import Derived.Test.YtnphcjpccieljaaGreatDoorShelfB
import Derived.Test.YtnphcjpccieljaaGreatDoorTrS
import Derived.Lib.Builder
import Derived.Lib.AppendStr
import Derived.Lib.UnsafeStr
import Derived.WalkKit
import Derived.Laws.Externs
import Derived.Lib.Hide
namespace Go.Proofs.YtnphcjpccieljaaGreatDoor
open Go Go.RowKit

theorem sizeBuilder : (Tryz.prog.info? 61).map (·.size) = some 2 := by kernel_rfl
theorem liesBuilder : liesAt Tryz.prog Tryz.prog.depth 61 (2 / Tryz.prog.cellsOf 61) 0 61 1 = true := by kernel_rfl
theorem infoByte : (Tryz.prog.info? 5).map (fun i => (i.zero, i.size, i.bytes)) = some (some (.int .u8 0), 1, 1) := by kernel_rfl
set_option maxHeartbeats 1000000 in
set_option maxRecDepth 100000 in
theorem copyCheck_used (b : Nat) (w : World) (h0 : w.cell? ⟨b, 0, none⟩ = some (.pointer (some ⟨b, 0, none⟩))) :
    Calls Tryz.prog 69 #[.pointer (some ⟨b, 0, none⟩)] w fun e w' => e = .returned (.tuple #[]) ∧ w' = w := by
  obtain ⟨j, hj, _⟩ := Option.map_eq_some_iff.1 sizeBuilder
  go_enter Tryz.func69, Tryz.ntmps69
  go_wp2
  rw [Lib.run_neq_ptr_same w _ Tryz.underlying58 hj]
  go_wp2
  go_end0
  exact ⟨rfl, rfl⟩
set_option maxHeartbeats 1000000 in
set_option maxRecDepth 100000 in
theorem copyCheck_fresh (b : Nat) (w : World) (h0 : w.cell? ⟨b, 0, none⟩ = some (.pointer none)) (hsh : w.shape? b = some (61, 2)) (hfz : w.frozen? ⟨b, 0, none⟩ = false) :
    Calls Tryz.prog 69 #[.pointer (some ⟨b, 0, none⟩)] w fun e w' => e = .returned (.tuple #[]) ∧ w' = w.setCell ⟨b, 0, none⟩ (.pointer (some ⟨b, 0, none⟩)) := by
  obtain ⟨j, hj, hjs⟩ := Option.map_eq_some_iff.1 sizeBuilder
  go_enter Tryz.func69, Tryz.ntmps69
  go_wp2
  rw [Lib.run_to_unsafe w ⟨b, 0, none⟩ Tryz.underlying58 Tryz.underlying123 hj (by rw [hjs]; decide) hsh (Nat.zero_lt_succ 1)]
  simp only [Result.andThen]
  rw [Oper.upon_value]
  go_wp2
  rw [run_callFunc_extern Tryz.func112 (by kernel_rfl) (by kernel_rfl) (by kernel_rfl) (e := Extern.AbiNoEscape.same) (by kernel_rfl)]
  rw [Lib.run_noEscape]
  simp only [Result.andThen]
  rw [Oper.upon_value]
  go_wp2
  rw [Lib.run_from_unsafe w ⟨b, 0, none⟩ Tryz.underlying123 Tryz.underlying58 hj hsh liesBuilder]
  simp only [Result.andThen]
  rw [Oper.upon_value]
  go_wp2
  go_end0
  exact ⟨rfl, rfl⟩

/-- where a row lies to which a string was appended -/
def AtS (w w' : World) (v v' : Value) (s : ByteArray) : Prop := (v'.ownBlock = v.ownBlock ∨ (v'.ownBlock = some w.heap.size ∧ ∀ q, q < w.heap.size → w'.heap[q]? = w.heap[q]?)) ∧ (s.size = 0 → v' = v)
section
variable {P : Program}
/-- a string's bytes appended to an own row: where the row lies then -/
theorem append_str_at (w : World) (base : Nat) (t u ty e : TypeId) (i : TypeInfo) (ht : P.underlying t = some (.slice e)) (hu : P.underlying u = some .string) (hi : P.info? e = some i) (hz : i.zero = some (.int .u8 0))
    (hsize : i.size = 1) (hby : i.bytes = 1) (v : Value) (n : Nat) (xs : List Value) (hown : w.ownsRow base e 1 v n xs) (s : ByteArray) (hbytes : n + s.size ≤ 140737488355328) (hbase : base ≤ w.heap.size) :
    ∃ v' w', (Builtin.append_ #[t, u] ty #[v, .string s]).run P w = .ok v' w' ∧ w'.ownsRow base e 1 v' (n + s.size) (xs ++ Lib.strCells s) ∧ w.grownBy w' v.ownBlock ∧
      AtS w w' v v' s := by
  have h63 : n + s.size ≤ maxLen := by unfold maxLen; omega
  obtain ⟨v', w', hr, h2, h3, h4⟩ := Lib.run_append_own_string (P := P) w base t u ty e i ht hu hi hz hsize hby v n xs hown s h63 hbytes hbase
  refine ⟨v', w', hr, h2, h3, ?_⟩
  have hxl : xs.length = n := by simpa using hown.1
  rcases hown.2 with ⟨rfl, rfl⟩ | ⟨g, cap, cur, rfl, hbg, hg, hnc, hcm, hcs, htake⟩
  · by_cases hm : s.size = 0
    · have : v' = .slice none 0 0 := h4.2 ⟨rfl, hm⟩
      subst this
      exact ⟨.inl rfl, fun _ => rfl⟩
    · have hr2 := run_append_nil_string (P := P) w t u ty e i (.int .u8 0) ht hu hi hz s (by omega) (by omega) (by rw [hby]; omega)
      rw [hr] at hr2
      injection hr2 with hv2 hw2
      subst hv2 hw2
      exact ⟨.inr ⟨rfl, fun q hq => Below.heap_alloc w.drew _ q hq⟩, fun h => absurd h hm⟩
  · by_cases hroom : n + s.size ≤ cap
    · have hr2 := Lib.run_append_room_string (P := P) w t u ty e i ht hu hi hsize g n cap cur hg s hroom (by simp only [Nat.mul_one] at hcs; omega)
      rw [hr] at hr2
      injection hr2 with hv2 hw2
      subst hv2
      exact ⟨.inl rfl, fun h => by rw [h, Nat.add_zero]⟩
    · have holds : ∀ j u, xs[j]? = some u → w.cell? ((⟨g, 0, none⟩ : Addr).add j) = some u := hown.cells (g := g) rfl
      have hr2 := Lib.run_append_grow_string (P := P) w t u ty e i (.int .u8 0) ht hu hi hz ⟨g, 0, none⟩ n cap xs (by rw [hsize]; omega) holds s (by omega) (by omega) (by rw [hby]; exact growslice_fits (by omega) (by omega))
      rw [hr] at hr2
      injection hr2 with hv2 hw2
      subst hv2 hw2
      exact ⟨.inr ⟨rfl, fun q hq => Below.heap_alloc w.drew _ q hq⟩, fun h => absurd h (by omega)⟩
/-- .. at the operation -/
theorem wpList_append_str_at {w : World} {ops : Array Oper} {rest : List Oper} {o : Oper} {a : Act} {Q : Exit → Act → World → Prop} (hgd : o.guard = none) (sl x : Operand) (t u : TypeId)
    (ho : o.op = .call { callee := .builtin .append, args := #[sl, x], argTypes := #[t, u] })
    (base : Nat) (e : TypeId) (i : TypeInfo) (ht : P.underlying t = some (.slice e)) (hu : P.underlying u = some .string) (hi : P.info? e = some i) (hz : i.zero = some (.int .u8 0))
    (hsize : i.size = 1) (hby : i.bytes = 1) (v : Value) (n : Nat) (xs : List Value) (hs : a.eval sl = v) (hown : w.ownsRow base e 1 v n xs) (s : ByteArray) (hx : a.eval x = .string s)
    (hbytes : n + s.size ≤ 140737488355328) (hbase : base ≤ w.heap.size)
    (h : ∀ v' w', w'.ownsRow base e 1 v' (n + s.size) (xs ++ Lib.strCells s) → w.grownBy w' v.ownBlock →
      AtS w w' v v' s → wpList P ops Q rest (a.put o.dst v') w') : wpList P ops Q (o :: rest) a w := by
  refine wpList_plain hgd fun K hK => ?_
  obtain ⟨v', w', hr, h2, h3, h4⟩ := append_str_at (P := P) w base t u o.type e i ht hu hi hz hsize hby v n xs hown s hbytes hbase
  unfold Oper.wp execOp
  simp only [ho, resolve, invoke, builtin, Sem.run_bind, Sem.run_pure, Result.andThen_ok, List.map_toArray, List.map_cons, List.map_nil, hs, hx, hr]
  exact hK _ _ (h v' w' h2 h3 h4)
end
/-- what WriteString did -/
def Wrote (B b n : Nat) (v : Value) (xs : List Value) (s : ByteArray) (w w' : World) : Prop :=
  ∃ w1 v' w2, (w1 = w ∨ w1 = w.setCell ⟨b, 0, none⟩ (.pointer (some ⟨b, 0, none⟩))) ∧ w1.heap[b]? = some (.cells #[.pointer (some ⟨b, 0, none⟩), v] 61 (0, 0)) ∧ w2.ownsRow B 5 1 v' (n + s.size) (xs ++ Lib.strCells s) ∧ w1.grownBy w2 v.ownBlock ∧
    AtS w1 w2 v v' s ∧ w' = w2.setCell ⟨b, 1, none⟩ v'
set_option maxHeartbeats 4000000 in
set_option maxRecDepth 100000 in
theorem writeString_raw (B b n : Nat) (c0 v : Value) (xs : List Value) (s : ByteArray) (w : World) (_hB : B ≤ b) (hbk0 : w.heap[b]? = some (.cells #[c0, v] 61 (0, 0))) (h0 : c0 = .pointer none ∨ c0 = .pointer (some ⟨b, 0, none⟩)) (hown0 : w.ownsRow B 5 1 v n xs) (hne : v.ownBlock ≠ some b) (hlen : n + s.size ≤ 140737488355328) (hBw : B ≤ w.heap.size) :
    Calls Tryz.prog 39 #[.pointer (some ⟨b, 0, none⟩), .string s] w fun e w' => e = .returned (.tuple #[.int .i64 s.size, .nilIface]) ∧ Wrote B b n v xs s w w' := by
  obtain ⟨i0, hi, hz0, hz1, hz2⟩ := info_parts infoByte
  have hcc : Calls Tryz.prog 69 #[.pointer (some ⟨b, 0, none⟩)] w fun e w1 => e = .returned (.tuple #[]) ∧ (w1 = w ∨ w1 = w.setCell ⟨b, 0, none⟩ (.pointer (some ⟨b, 0, none⟩))) ∧ w1.heap[b]? = some (.cells #[.pointer (some ⟨b, 0, none⟩), v] 61 (0, 0)) ∧ w1.ownsRow B 5 1 v n xs ∧ w1.heap.size = w.heap.size := by
    rcases h0 with rfl | rfl
    · refine (copyCheck_fresh b w (by rw [Lib.cell_of_heap hbk0]; rfl) (by simp [World.shape?, hbk0]) (Lib.frozen_of_heap hbk0 0)).mono ?_
      rintro e w' ⟨rfl, rfl⟩
      refine ⟨rfl, .inr rfl, by simp [World.setCell, Array.getElem?_modify, hbk0], ownsRow_block hown0 fun x hx => Below.heap_setCell _ _ _ _ (fun e => hne (by rw [hx]; exact congrArg some e)), by simp [World.setCell]⟩
    · refine (copyCheck_used b w (by rw [Lib.cell_of_heap hbk0]; rfl)).mono ?_
      rintro e w' ⟨rfl, rfl⟩
      exact ⟨rfl, .inl rfl, hbk0, hown0, rfl⟩
  go_enter Tryz.func39, Tryz.ntmps39
  go_wp2_with (go_at_call 69; refine hcc.mono ?_)
  rintro e w1 ⟨rfl, hw1, hbk, hown, hs1⟩
  have c0 : w1.cell? ⟨b, 0, none⟩ = some (.pointer (some ⟨b, 0, none⟩)) := by rw [Lib.cell_of_heap hbk]; rfl
  have c1 : w1.cell? ⟨b, 1, none⟩ = some v := by rw [Lib.cell_of_heap hbk]; rfl
  have HW1 := Lib.hid hw1
  clear hw1 hcc
  go_wp2_with (at_builtin; refine wpList_append_str_at rfl _ _ 59 9 rfl B 5 i0 Tryz.underlying59 Tryz.underlying9 hi hz0 hz1 hz2 _ _ _ rfl hown s rfl ?c4 ?c5 ?_)
  case c4 => omega
  case c5 => omega
  intro v' w2 hown' hgrow hat
  have hlt : b < w1.heap.size := (Array.getElem?_eq_some_iff.1 hbk).1
  have hb2 : w2.heap[b]? = some (.cells #[.pointer (some ⟨b, 0, none⟩), v] 61 (0, 0)) := by
    rw [hgrow.block b hlt (fun e => hne e.symm)]
    exact hbk
  have d0 : w2.cell? ⟨b, 0, none⟩ = some (.pointer (some ⟨b, 0, none⟩)) := by rw [Lib.cell_of_heap hb2]; rfl
  have d1 : w2.cell? ⟨b, 1, none⟩ = some v := by rw [Lib.cell_of_heap hb2]; rfl
  have f1 : w2.frozen? ⟨b, 1, none⟩ = false := Lib.frozen_of_heap hb2 1
  obtain ⟨ao, n', cap, rfl⟩ : ∃ ao n' cap, v' = .slice ao n' cap := by
    rcases hown'.2 with ⟨hv, _⟩ | ⟨g, cap, cur, hv, _⟩
    · exact ⟨_, _, _, hv⟩
    · exact ⟨_, _, _, hv⟩
  have HW := Lib.hid hown'
  have HG := Lib.hid hgrow
  have HB1 := Lib.hid hbk
  have HA := Lib.hid hat
  clear hown' hgrow hb2 hbk hat
  go_wp2
  go_ret2
  exact ⟨rfl, w1, _, w2, HW1.out, HB1.out, HW.out, HG.out, HA.out, rfl⟩
end Go.Proofs.YtnphcjpccieljaaGreatDoor

namespace Go.Proofs.YtnphcjpccieljaaGreatDoor
open Go Go.RowKit
/-- bytes as rows of one cell -/
def bytesR (l : List UInt8) : List (List D) := l.map fun c => [.raw (.int .u8 c.toNat)]
theorem bytesR_length (l : List UInt8) : (bytesR l).length = l.length := by simp [bytesR]
theorem bytesR_get (l : List UInt8) (i : Nat) (h : i < l.length) (h' : i < (bytesR l).length) : (bytesR l)[i] = [.raw (.int .u8 l[i].toNat)] := by simp [bytesR]
theorem reads_bytes {w : World} {base : Nat} {v : Value} {l : List UInt8} {F : Nat → Nat → Prop} (hown : w.ownsRow base 5 1 v l.length (Lib.byteCells l)) (hF : ∀ b o, v.ownBlock = some b → o < l.length → F b o) : Reads w F (.sl (bytesR l)) v := by
  rcases hown.2 with ⟨rfl, h0⟩ | ⟨gb, cap, cur, hv, _, _, hcap, _⟩
  · have : l = [] := List.eq_nil_of_length_eq_zero h0
    subst this
    exact .nil _ _
  · have hc := hown.cells (g := gb) (by rw [hv]; rfl)
    rw [hv, ← bytesR_length l]
    refine Reads.mk (st := 1) (by rw [bytesR_length]; exact hcap) (fun i hi => by rw [bytesR_get l i (by rw [bytesR_length] at hi; exact hi)]; rfl) fun i hi j hj => ?_
    have hil : i < l.length := by rw [bytesR_length] at hi; exact hi
    have hj0 : j = 0 := by rw [bytesR_get l i hil] at hj; simpa using hj
    subst hj0
    have h1 := hc i (Value.int .u8 l[i].toNat) (by simp [Lib.byteCells, hil])
    rw [Addr.add_lit] at h1
    refine ⟨hF _ _ (by rw [hv]; rfl) (by omega), _, by simpa using h1, ?_⟩
    simp only [bytesR_get l i hil, List.getElem_cons_zero]
    exact .raw _
theorem bytes_of_reads {w : World} {base : Nat} {v : Value} {l : List UInt8} {F : Nat → Nat → Prop} {xs : List Value} (hown : w.ownsRow base 5 1 v l.length xs) (h : Reads w F (.sl (bytesR l)) v) : xs = Lib.byteCells l := by
  have hxl : xs.length = l.length := by simpa using hown.1
  refine List.ext_getElem (by rw [Lib.byteCells_length]; exact hxl) fun i hi hi' => ?_
  have hil : i < l.length := by omega
  rcases hown.2 with ⟨_, h0⟩ | ⟨gb, cap, cur, hv, _⟩
  · omega
  · have hc := hown.cells (g := gb) (by rw [hv]; rfl) i xs[i] (List.getElem?_eq_getElem hi)
    rw [Addr.add_lit] at hc
    rw [hv] at h
    obtain ⟨b1, off1, he, hr⟩ := h.row i (by rw [bytesR_length]; exact hil) (st := 1) (by rw [bytesR_get l i hil]; rfl)
    injection he with he
    have e1 : gb = b1 := congrArg Addr.block he
    have e2 : 0 = off1 := congrArg Addr.off he
    subst e1 e2
    obtain ⟨_, u, hu, hru⟩ := hr 0 (by rw [bytesR_get l i hil]; exact Nat.zero_lt_one)
    simp only [bytesR_get l i hil, List.getElem_cons_zero] at hru
    have hu' := hru.raw_eq
    have h2 : w.cell? ⟨gb, 0 + i * 1 + 0, none⟩ = w.cell? ⟨gb, 0 + i, none⟩ := by rw [Nat.mul_one, Nat.add_zero]
    rw [h2] at hu
    have h3 : xs[i] = u := Option.some.inj (hc.symm.trans hu)
    rw [h3, hu']
    simp [Lib.byteCells]
theorem byteCells_append (l : List UInt8) (s : ByteArray) : Lib.byteCells l ++ Lib.strCells s = Lib.byteCells (l ++ s.data.toList) := by simp [Lib.byteCells, Lib.strCells]
variable {A : Base Tryz.prog} {σ : St} {g : Gh} {a : Act} {w : World}
/-- a builder among the own blocks -/
theorem Ok.builder (hk : Ok A σ g a w) {r q : Nat} {c0 : AV} {l : List UInt8} (hb : σ.blk r = some (.cell 61 [c0, .grow q (bytesR l)])) (h0 : c0 = .d (.raw (.pointer none)) ∨ c0 = .box r 0) (ht : σ.tok q = some ⟨1, 5, l.length⟩) :
    ∃ p0, A.B ≤ g.m r ∧ w.heap[g.m r]? = some (.cells #[p0, g.tv q] 61 (0, 0)) ∧ (p0 = .pointer none ∨ p0 = .pointer (some ⟨g.m r, 0, none⟩)) ∧ w.ownsRow A.B 5 1 (g.tv q) l.length (Lib.byteCells l) ∧ (g.tv q).ownBlock ≠ some (g.m r) ∧ Has g σ.tk w (.grow q (bytesR l)) (g.tv q) := by
  obtain ⟨hBr, arr, hbk, hal, hcs⟩ := hk.blk r _ hb
  match arr, hal with
  | [p0, v], _ =>
    have h1 := hcs 0 (by simp) (by simp)
    have h2 := hcs 1 (by simp) (by simp)
    simp only [List.getElem_cons_zero, List.getElem_cons_succ] at h1 h2
    obtain ⟨xs, hown⟩ := hk.tok q _ ht
    obtain ⟨hrd, htv⟩ := h2.grow_eq
    have hve : v = g.tv q := (htv l.length (by simp [St.tk, ht])).2 (bytesR_length l)
    subst hve
    have hxs := bytes_of_reads hown hrd
    subst hxs
    refine ⟨p0, ?_, hbk, ?_, hown, fun e => hk.tokblk q _ r _ _ ht hb e rfl, h2⟩
    · rcases hBr with h | h
      · exact h
      · cases h.2
    · rcases h0 with rfl | rfl
      · exact .inl h1.raw_eq
      · exact .inr h1.box_eq
theorem Ok.isBuilder (hk : Ok A σ g a w) {r q : Nat} {c0 : AV} {l : List UInt8} (hb : σ.blk r = some (.cell 61 [c0, .grow q (bytesR l)])) (h0 : c0 = .d (.raw (.pointer none)) ∨ c0 = .box r 0) (ht : σ.tok q = some ⟨1, 5, l.length⟩) :
    Lib.IsBuilder 61 5 A.B (g.m r) (Lib.byteCells l) w := by
  obtain ⟨p0, h1, h2, h3, h4, h5, _⟩ := hk.builder hb h0 ht
  rcases h3 with rfl | rfl
  · exact .inl ⟨h1, _, h2, by rw [Lib.byteCells_length]; exact h4, h5⟩
  · exact .inr ⟨h1, _, h2, by rw [Lib.byteCells_length]; exact h4, h5⟩
theorem run_call2 {o : Oper} {c : Call} {p : Operand} {f : FuncId} (hk : Ok A σ g a w) (ho : o.op = .call c) (hp : c.callee = .value p) (hf : σ.eval p = .fn f []) (hen : Enters Tryz.prog f) : (execOp a.eval o).run Tryz.prog w = .ok (.enter f (c.args.toList.map a.eval).toArray) w := by
  have hpe := hk.eval p
  rw [hf] at hpe
  obtain ⟨vs, hv, hvl, hvs⟩ := hpe.fn_eq
  obtain rfl : vs = [] := List.eq_nil_of_length_eq_zero hvl.symm
  simp only [execOp, ho, resolve, hp, hv, Deferred.ofValue, Sem.run_bind, Sem.run_pure, Result.andThen_ok, invoke]
  rw [run_callFunc hen]
  have he : #[] ++ c.args.map a.eval ++ [].toArray = (c.args.toList.map a.eval).toArray := by
    apply Array.ext'; simp
  rw [he]
theorem opOk_write {o : Oper} {c : Call} {p m x : Operand} {r q : Nat} {c0 : AV} {l : List UInt8} {s : ByteArray} (ho : o.op = .call c) (hp : c.callee = .value p) (hf : σ.eval p = .fn 39 []) (hargs : c.args.toList = [m, x]) (hm : σ.eval m = .box r 0) (hx : σ.eval x = .d (.raw (.string s)))
    (hb : σ.blk r = some (.cell 61 [c0, .grow q (bytesR l)])) (h0 : c0 = .d (.raw (.pointer none)) ∨ c0 = .box r 0) (ht : σ.tok q = some ⟨1, 5, l.length⟩) (hlen : l.length + s.size ≤ 140737488355328) :
    OpOk Tryz.prog A o σ ((σ.setTok q (some ⟨1, 5, l.length + s.size⟩)).setBlk r (some (.cell 61 [.box r 0, .grow q (bytesR (l ++ s.data.toList))]))) (.tup [.d (.raw (.int .i64 s.size)), .d (.raw .nilIface)]) := by
  intro g a w hk K Q hK
  have hr := run_call2 hk ho hp hf ⟨_, Tryz.func39, by decide +kernel, rfl⟩
  have hme := hk.eval m
  rw [hm] at hme
  have hxe := hk.eval x
  rw [hx] at hxe
  obtain ⟨p0, hB, hbk, hp0, hown, hne, hgr⟩ := hk.builder hb h0 ht
  unfold Oper.wp
  rw [hr, hargs]
  simp only [Oper.upon, List.map_cons, List.map_nil, hme.box_eq, hxe.raw_eq]
  refine (writeString_raw A.B (g.m r) l.length p0 (g.tv q) (Lib.byteCells l) s w hB hbk hp0 hown hne hlen hk.hB).mono ?_
  rintro e w' ⟨rfl, w1, v', w2, hw1, hbk1, hown2, hgrow, ⟨hat, hv0⟩, rfl⟩
  -- the first cell
  have hoth1 : ∀ b, b ≠ g.m r → w1.heap[b]? = w.heap[b]? := fun b hne => by
    rcases hw1 with rfl | rfl
    · rfl
    · exact Below.heap_setCell _ _ _ _ hne
  have hsz1 : w1.heap.size = w.heap.size := by
    rcases hw1 with rfl | rfl
    · rfl
    · simp [World.setCell]
  have hbel1 : Below A.B w w1 := by
    rcases hw1 with rfl | rfl
    · exact Below.refl _ _
    · exact (Below.refl _ _).setCell (p := ⟨g.m r, 0, none⟩) hB _
  have e1 : Ext (fun _ => False) g σ.tk w g σ.tk w1 := ⟨fun _ _ h => h, fun b o u hf hu => (cell_block (hoth1 b fun e => hk.Fblk r _ hb o (e ▸ hf))).trans hu, fun _ _ => rfl, fun q _ n' hn' => ⟨n', hn', Nat.le_refl _, fun _ => rfl⟩, fun b es c hf hu => (hoth1 b fun e => hk.Fblk r _ hb 0 (e ▸ hf)).trans hu⟩
  obtain ⟨hk1, _⟩ := hk.write (k' := .cell 61 [.box r 0, .grow q (bytesR l)]) hb hoth1 hsz1 (.of hbel1) ⟨[.pointer (some ⟨g.m r, 0, none⟩), g.tv q], hbk1, rfl, fun j hj hj' => by
    match j, hj with
    | 0, _ => exact .box r 0
    | 1, _ => exact hgr.mono e1 fun _ _ => id⟩
  -- the bytes
  have ht1 : (σ.setBlk r (some (.cell 61 [.box r 0, .grow q (bytesR l)]))).tok q = some ⟨1, 5, l.length⟩ := ht
  have hB1 := hk1.hB
  have hbel2 : Below A.B w1 w2 := ⟨hgrow.os, hgrow.tape, hgrow.output, hgrow.size, fun b hb' => hgrow.block b (by omega) (fun e => by have := (hown.lt b e.symm).1; omega)⟩
  have hown1 : w1.ownsRow A.B 5 1 (g.tv q) l.length (Lib.byteCells l) := ownsRow_block hown fun x hx => hoth1 x fun e => hne (by rw [hx, e])
  have hkeep : ∀ x o, (g.tv q).ownBlock = some x → o < l.length * 1 → w2.cell? ⟨x, o, none⟩ = w1.cell? ⟨x, o, none⟩ := fun x o hx' ho' => by
    rcases hat with h2 | ⟨_, h2⟩
    · have hl := Lib.byteCells_length l
      have h1 := hown1.cells (g := x) hx' o (Lib.byteCells l)[o] (List.getElem?_eq_getElem (by omega))
      rw [Addr.add_lit, Nat.zero_add] at h1
      rw [h1]
      have h3 := hown2.cells (g := x) (h2.trans hx') o (Lib.byteCells l)[o] (by rw [List.getElem?_append_left (by omega)]; exact List.getElem?_eq_getElem (by omega))
      rw [Addr.add_lit, Nat.zero_add] at h3
      exact h3
    · exact cell_block (h2 x (hown1.lt x hx').2)
  obtain ⟨hk2, _⟩ := hk1.append (m := s.size) (v' := v') (w' := w2) ht1 hown2 hgrow hbel2 hkeep (hat.imp id And.left) hv0
  -- the second cell
  have hb2 : ((σ.setBlk r (some (.cell 61 [.box r 0, .grow q (bytesR l)]))).setTok q (some ⟨1, 5, l.length + s.size⟩)).blk r = some (.cell 61 [.box r 0, .grow q (bytesR l)]) := by
    rw [St.blk_setTok, St.blk_setBlk, if_pos rfl]
  have hoth2 : ∀ b, b ≠ g.m r → (w2.setCell ⟨g.m r, 1, none⟩ v').heap[b]? = w2.heap[b]? := fun b hne => Below.heap_setCell _ _ _ _ hne
  have hlt1 : g.m r < w1.heap.size := (Array.getElem?_eq_some_iff.1 hbk1).1
  have hbk2 : w2.heap[g.m r]? = some (.cells #[.pointer (some ⟨g.m r, 0, none⟩), g.tv q] 61 (0, 0)) := by
    rw [hgrow.block _ hlt1 fun e => hne e.symm]; exact hbk1
  have hne2 : v'.ownBlock ≠ some (g.m r) := fun e => by
    rcases hat with h2 | ⟨h2, _⟩
    · exact hne (h2.symm.trans e)
    · rw [h2] at e; injection e with e; omega
  have hll : (l ++ s.data.toList).length = l.length + s.size := by
    rw [List.length_append]; rfl
  have hown3 : (w2.setCell ⟨g.m r, 1, none⟩ v').ownsRow A.B 5 1 v' (l ++ s.data.toList).length (Lib.byteCells (l ++ s.data.toList)) := by
    rw [hll, ← byteCells_append]
    exact ownsRow_block hown2 fun x hx => hoth2 x fun e => hne2 (by rw [hx, e])
  have htk : ((σ.setBlk r (some (.cell 61 [.box r 0, .grow q (bytesR l)]))).setTok q (some ⟨1, 5, l.length + s.size⟩)).tk q = some (l.length + s.size) := by simp [St.tk, St.tok_setTok]
  obtain ⟨hk3, _⟩ := hk2.write (k' := .cell 61 [.box r 0, .grow q (bytesR (l ++ s.data.toList))]) hb2 hoth2 (by simp [World.setCell]) (.of ((Below.refl _ _).setCell (p := ⟨g.m r, 1, none⟩) hB _)) ⟨[.pointer (some ⟨g.m r, 0, none⟩), v'], by simp [World.setCell, Array.getElem?_modify, hbk2], rfl, fun j hj hj' => by
    match j, hj with
    | 0, _ => exact .box r 0
    | 1, _ =>
      refine .grow q _ _ (reads_bytes hown3 fun b o hb' ho' => .inr ⟨hb', by show o < (l.length + s.size) * 1; omega⟩) fun n' hn' => ?_
      rw [htk] at hn'
      cases hn'
      rw [bytesR_length, hll]
      exact ⟨Nat.le_refl _, fun _ => (updN_same g.tv q v').symm⟩⟩
  refine hK _ _ _ (hk3.sub (fun t => .inr rfl) (fun r' => .inr ?_) (fun r' => .inr rfl)) (.tup _ [.int .i64 s.size, .nilIface] rfl fun i hi hv => ?_)
  · rw [St.blk_setBlk, St.blk_setBlk, St.blk_setTok, St.blk_setTok, St.blk_setBlk]
    by_cases e : r = r'
    · rw [if_pos e, if_pos e]
    · rw [if_neg e, if_neg e, if_neg e]
  · match i, hi with
    | 0, _ => exact .d (.raw _)
    | 1, _ => exact .d (.raw _)
theorem goWrite (n : Nat) {all : List Oper} {f : FuncId} {o : Oper} {rest : List Oper} {i base : Nat} {st : List Itm} {Q : Exit → St → Prop} {c : Call} {p m x : Operand} {r q : Nat} {c0 : AV} {l : List UInt8} {s : ByteArray} (ho : o.op = .call c) (hp : c.callee = .value p) (hf : σ.eval p = .fn 39 []) (hargs : c.args.toList = [m, x]) (hm : σ.eval m = .box r 0) (hx : σ.eval x = .d (.raw (.string s)))
    (hb : σ.blk r = some (.cell 61 [c0, .grow q (bytesR l)])) (h0 : c0 = .d (.raw (.pointer none)) ∨ c0 = .box r 0) (ht : σ.tok q = some ⟨1, 5, l.length⟩) (hlen : l.length + s.size ≤ 140737488355328) (hd : dstOk A.N o = true)
    (hr : go Tryz.prog A n (.ops all rest (i + 1) base) st (((σ.setTok q (some ⟨1, 5, l.length + s.size⟩)).setBlk r (some (.cell 61 [.box r 0, .grow q (bytesR (l ++ s.data.toList))]))).put o.dst (.tup [.d (.raw (.int .i64 s.size)), .d (.raw .nilIface)])) Q) : SemM Tryz.prog A (.exe (some f) all o rest i base) st σ Q :=
  satE_op (opOk_write ho hp hf hargs hm hx hb h0 ht hlen) hd (go_ok n _ _ _ _ hr)
theorem opOk_blen {o : Oper} {c : Call} {p m : Operand} {r q : Nat} {c0 : AV} {l : List UInt8} (ho : o.op = .call c) (hp : c.callee = .value p) (hf : σ.eval p = .fn 41 []) (hargs : c.args.toList = [m]) (hm : σ.eval m = .box r 0)
    (hb : σ.blk r = some (.cell 61 [c0, .grow q (bytesR l)])) (h0 : c0 = .d (.raw (.pointer none)) ∨ c0 = .box r 0) (ht : σ.tok q = some ⟨1, 5, l.length⟩) :
    OpOk Tryz.prog A o σ σ (.d (.raw (.int .i64 l.length))) := by
  intro g a w hk K Q hK
  have hr := run_call2 hk ho hp hf ⟨_, Tryz.func41, by decide +kernel, rfl⟩
  have hme := hk.eval m
  rw [hm] at hme
  have hib := hk.isBuilder hb h0 ht
  unfold Oper.wp
  rw [hr, hargs]
  simp only [Oper.upon, List.map_cons, List.map_nil, hme.box_eq]
  refine (Tryz.Builder_Len A.B (g.m r) _ w hib).mono ?_
  rintro e w' ⟨rfl, rfl⟩
  rw [Lib.byteCells_length]
  exact hK g _ _ hk (.d (.raw _))
theorem goLen (n : Nat) {all : List Oper} {f : FuncId} {o : Oper} {rest : List Oper} {i base : Nat} {st : List Itm} {Q : Exit → St → Prop} {c : Call} {p m : Operand} {r q : Nat} {c0 : AV} {l : List UInt8} (ho : o.op = .call c) (hp : c.callee = .value p) (hf : σ.eval p = .fn 41 []) (hargs : c.args.toList = [m]) (hm : σ.eval m = .box r 0)
    (hb : σ.blk r = some (.cell 61 [c0, .grow q (bytesR l)])) (h0 : c0 = .d (.raw (.pointer none)) ∨ c0 = .box r 0) (ht : σ.tok q = some ⟨1, 5, l.length⟩) (hd : dstOk A.N o = true)
    (hr : go Tryz.prog A n (.ops all rest (i + 1) base) st (σ.put o.dst (.d (.raw (.int .i64 l.length)))) Q) : SemM Tryz.prog A (.exe (some f) all o rest i base) st σ Q :=
  satE_op (opOk_blen ho hp hf hargs hm hb h0 ht) hd (go_ok n _ _ _ _ hr)
/-- the text of a builder; nothing else is known behind it -/
theorem opOk_bstring {o : Oper} {c : Call} {p m : Operand} {r q : Nat} {c0 : AV} {l : List UInt8} (ho : o.op = .call c) (hp : c.callee = .value p) (hf : σ.eval p = .fn 42 []) (hargs : c.args.toList = [m]) (hm : σ.eval m = .box r 0)
    (hb : σ.blk r = some (.cell 61 [c0, .grow q (bytesR l)])) (h0 : c0 = .d (.raw (.pointer none)) ∨ c0 = .box r 0) (ht : σ.tok q = some ⟨1, 5, l.length⟩) :
    OpOk Tryz.prog A o σ ⟨[], [], []⟩ (.d (.raw (.string ⟨l.toArray⟩))) := by
  intro g a w hk K Q hK
  have hr := run_call2 hk ho hp hf ⟨_, Tryz.func42, by decide +kernel, rfl⟩
  have hme := hk.eval m
  rw [hm] at hme
  have hib := hk.isBuilder hb h0 ht
  unfold Oper.wp
  rw [hr, hargs]
  simp only [Oper.upon, List.map_cons, List.map_nil, hme.box_eq]
  refine (Tryz.Builder_String_any A.B (g.m r) l w hib hk.hB).mono ?_
  rintro e w' ⟨rfl, hbel⟩
  have hs := hbel.size
  have hB := hk.hB
  refine hK ⟨g.m, g.tv, A.F0⟩ _ _ ⟨hk.below.trans (.of hbel), by omega, fun _ _ h => h, fun _ _ h => .inl h, fun b o hf => by have := hk.Fb b o (hk.F0 b o hf); omega, hk.defers, hk.size, fun t => .dead _, fun r b h => by simp [St.blk, look] at h, fun r b h => by simp [St.blk, look] at h, fun r b r' b' h => by simp [St.blk, look] at h, fun r k h => by simp [St.tok, look] at h, fun r k x h => by simp [St.tok, look] at h, fun r k r' b x h => by simp [St.tok, look] at h, fun r k r' k' x h => by simp [St.tok, look] at h⟩ (.d (.raw _))
theorem goString (n : Nat) {all : List Oper} {f : FuncId} {o : Oper} {rest : List Oper} {i base : Nat} {st : List Itm} {Q : Exit → St → Prop} {c : Call} {p m : Operand} {r q : Nat} {c0 : AV} {l : List UInt8} (ho : o.op = .call c) (hp : c.callee = .value p) (hf : σ.eval p = .fn 42 []) (hargs : c.args.toList = [m]) (hm : σ.eval m = .box r 0)
    (hb : σ.blk r = some (.cell 61 [c0, .grow q (bytesR l)])) (h0 : c0 = .d (.raw (.pointer none)) ∨ c0 = .box r 0) (ht : σ.tok q = some ⟨1, 5, l.length⟩) (hd : dstOk A.N o = true)
    (hr : go Tryz.prog A n (.ops all rest (i + 1) base) st (St.put ⟨[], [], []⟩ o.dst (.d (.raw (.string ⟨l.toArray⟩)))) Q) : SemM Tryz.prog A (.exe (some f) all o rest i base) st σ Q :=
  satE_op (opOk_bstring ho hp hf hargs hm hb h0 ht) hd (go_ok n _ _ _ _ hr)
end Go.Proofs.YtnphcjpccieljaaGreatDoor
