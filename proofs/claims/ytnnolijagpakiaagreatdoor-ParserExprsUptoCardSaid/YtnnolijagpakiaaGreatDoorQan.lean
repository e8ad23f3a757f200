/- Texts of this proof, part 14: what the proof uses of them. -/
import Derived.Test.YtnnolijagpakiaaGreatDoorQag
import Derived.Test.YtnnolijagpakiaaGreatDoorQam
import Derived.Lib.Builder
import Derived.Lib.AppendStr
import Derived.Lib.UnsafeStr
import Derived.WalkKit
import Derived.Laws.Externs
import Derived.Lib.Hide
namespace Go.Proofs.YtnnolijagpakiaaGreatDoor
open Go Go.RowKit
theorem sizeBuilder : (Tryz.prog.info? 91).map (·.size) = some 2 := by kernel_rfl
theorem liesBuilder : liesAt Tryz.prog Tryz.prog.depth 91 (2 / Tryz.prog.cellsOf 91) 0 91 1 = true := by kernel_rfl
theorem infoByte : (Tryz.prog.info? 5).map (fun i => (i.zero, i.size, i.bytes)) = some (some (.int .u8 0), 1, 1) := by kernel_rfl
set_option maxHeartbeats 1000000 in
set_option maxRecDepth 100000 in
theorem copyCheck_used (b : Nat) (w : World) (h0 : w.cell? ⟨b, 0, none⟩ = some (.pointer (some ⟨b, 0, none⟩))) :
    Calls Tryz.prog 109 #[.pointer (some ⟨b, 0, none⟩)] w fun e w' => e = .returned (.tuple #[]) ∧ w' = w := by
  obtain ⟨j, hj, _⟩ := Option.map_eq_some_iff.1 sizeBuilder
  go_enter Tryz.func109, Tryz.ntmps109
  go_wp2
  rw [Lib.run_neq_ptr_same w _ Tryz.underlying89 hj]
  go_wp2
  go_end0
  exact ⟨rfl, rfl⟩
set_option maxHeartbeats 1000000 in
set_option maxRecDepth 100000 in
theorem copyCheck_fresh (b : Nat) (w : World) (h0 : w.cell? ⟨b, 0, none⟩ = some (.pointer none)) (hsh : w.shape? b = some (91, 2)) (hfz : w.frozen? ⟨b, 0, none⟩ = false) :
    Calls Tryz.prog 109 #[.pointer (some ⟨b, 0, none⟩)] w fun e w' => e = .returned (.tuple #[]) ∧ w' = w.setCell ⟨b, 0, none⟩ (.pointer (some ⟨b, 0, none⟩)) := by
  obtain ⟨j, hj, hjs⟩ := Option.map_eq_some_iff.1 sizeBuilder
  go_enter Tryz.func109, Tryz.ntmps109
  go_wp2
  rw [Lib.run_to_unsafe w ⟨b, 0, none⟩ Tryz.underlying89 Tryz.underlying175 hj (by rw [hjs]; decide) hsh (Nat.zero_lt_succ 1)]
  simp only [Result.andThen]
  rw [Oper.upon_value]
  go_wp2
  rw [run_callFunc_extern Tryz.func158 (by kernel_rfl) (by kernel_rfl) (by kernel_rfl) (e := Extern.AbiNoEscape.same) (by kernel_rfl)]
  rw [Lib.run_noEscape]
  simp only [Result.andThen]
  rw [Oper.upon_value]
  go_wp2
  rw [Lib.run_from_unsafe w ⟨b, 0, none⟩ Tryz.underlying175 Tryz.underlying89 hj hsh liesBuilder]
  simp only [Result.andThen]
  rw [Oper.upon_value]
  go_wp2
  go_end0
  exact ⟨rfl, rfl⟩
def AtS (w w' : World) (v v' : Value) (s : ByteArray) : Prop := (v'.ownBlock = v.ownBlock ∨ (v'.ownBlock = some w.heap.size ∧ ∀ q, q < w.heap.size → w'.heap[q]? = w.heap[q]?)) ∧ (s.size = 0 → v' = v)
section
variable {P : Program}
theorem append_str_at (w : World) (base : Nat) (t u ty e : TypeId) (i : TypeInfo) (ht : P.underlying t = some (.slice e)) (hu : P.underlying u = some .string) (hi : P.info? e = some i) (hz : i.zero = some (.int .u8 0))
    (hsize : i.size = 1) (hby : i.bytes = 1) (v : Value) (n : Nat) (xs : List Value) (hown : w.ownsRow base e 1 v n xs) (s : ByteArray) (hbytes : n + s.size ≤ 140737488355328) (hbase : base ≤ w.heap.size) :
    ∃ v' w', (Builtin.append_ #[t, u] ty #[v, .string s]).run P w = .ok v' w' ∧ w'.ownsRow base e 1 v' (n + s.size) (xs ++ Lib.strCells s) ∧ w.grownBy w' v.ownBlock ∧
      AtS w w' v v' s := by
  have h63 : n + s.size ≤ maxLen := by unfold maxLen; omega
  obtain ⟨v', w', hr, h2, h3, h4⟩ := Lib.run_append_own_string (P := P) w base t u ty e i ht hu hi hz hsize hby v n xs hown s h63 hbytes hbase
  refine ⟨v', w', hr, h2, h3, ?_⟩
  have hxl : xs.length = n := by simpa using hown.1
  rcases hown.2 with ⟨rfl, rfl⟩ | ⟨g, cap, cur, rfl, hbg, hg, hnc, hcm, hcs, htake⟩
  · by_cases hm : s.size = 0
    · have : v' = .slice none 0 0 := h4.2 ⟨rfl, hm⟩
      subst this
      exact ⟨.inl rfl, fun _ => rfl⟩
    · have hr2 := run_append_nil_string (P := P) w t u ty e i (.int .u8 0) ht hu hi hz s (by omega) (by omega) (by rw [hby]; omega)
      rw [hr] at hr2
      injection hr2 with hv2 hw2
      subst hv2 hw2
      exact ⟨.inr ⟨rfl, fun q hq => Below.heap_alloc w.drew _ q hq⟩, fun h => absurd h hm⟩
  · by_cases hroom : n + s.size ≤ cap
    · have hr2 := Lib.run_append_room_string (P := P) w t u ty e i ht hu hi hsize g n cap cur hg s hroom (by simp only [Nat.mul_one] at hcs; omega)
      rw [hr] at hr2
      injection hr2 with hv2 hw2
      subst hv2
      exact ⟨.inl rfl, fun h => by rw [h, Nat.add_zero]⟩
    · have holds : ∀ j u, xs[j]? = some u → w.cell? ((⟨g, 0, none⟩ : Addr).add j) = some u := hown.cells (g := g) rfl
      have hr2 := Lib.run_append_grow_string (P := P) w t u ty e i (.int .u8 0) ht hu hi hz ⟨g, 0, none⟩ n cap xs (by rw [hsize]; omega) holds s (by omega) (by omega) (by rw [hby]; exact growslice_fits (by omega) (by omega))
      rw [hr] at hr2
      injection hr2 with hv2 hw2
      subst hv2 hw2
      exact ⟨.inr ⟨rfl, fun q hq => Below.heap_alloc w.drew _ q hq⟩, fun h => absurd h (by omega)⟩
theorem wpList_append_str_at {w : World} {ops : Array Oper} {rest : List Oper} {o : Oper} {a : Act} {Q : Exit → Act → World → Prop} (hgd : o.guard = none) (sl x : Operand) (t u : TypeId)
    (ho : o.op = .call { callee := .builtin .append, args := #[sl, x], argTypes := #[t, u] })
    (base : Nat) (e : TypeId) (i : TypeInfo) (ht : P.underlying t = some (.slice e)) (hu : P.underlying u = some .string) (hi : P.info? e = some i) (hz : i.zero = some (.int .u8 0))
    (hsize : i.size = 1) (hby : i.bytes = 1) (v : Value) (n : Nat) (xs : List Value) (hs : a.eval sl = v) (hown : w.ownsRow base e 1 v n xs) (s : ByteArray) (hx : a.eval x = .string s)
    (hbytes : n + s.size ≤ 140737488355328) (hbase : base ≤ w.heap.size)
    (h : ∀ v' w', w'.ownsRow base e 1 v' (n + s.size) (xs ++ Lib.strCells s) → w.grownBy w' v.ownBlock →
      AtS w w' v v' s → wpList P ops Q rest (a.put o.dst v') w') : wpList P ops Q (o :: rest) a w := by
  refine wpList_plain hgd fun K hK => ?_
  obtain ⟨v', w', hr, h2, h3, h4⟩ := append_str_at (P := P) w base t u o.type e i ht hu hi hz hsize hby v n xs hown s hbytes hbase
  unfold Oper.wp execOp
  simp only [ho, resolve, invoke, builtin, Sem.run_bind, Sem.run_pure, Result.andThen_ok, List.map_toArray, List.map_cons, List.map_nil, hs, hx, hr]
  exact hK _ _ (h v' w' h2 h3 h4)
end
def Wrote (B b n : Nat) (v : Value) (xs : List Value) (s : ByteArray) (w w' : World) : Prop :=
  ∃ w1 v' w2, (w1 = w ∨ w1 = w.setCell ⟨b, 0, none⟩ (.pointer (some ⟨b, 0, none⟩))) ∧ w1.heap[b]? = some (.cells #[.pointer (some ⟨b, 0, none⟩), v] 91 (0, 0)) ∧ w2.ownsRow B 5 1 v' (n + s.size) (xs ++ Lib.strCells s) ∧ w1.grownBy w2 v.ownBlock ∧
    AtS w1 w2 v v' s ∧ w' = w2.setCell ⟨b, 1, none⟩ v'
set_option maxHeartbeats 4000000 in
set_option maxRecDepth 100000 in
theorem writeString_raw (B b n : Nat) (c0 v : Value) (xs : List Value) (s : ByteArray) (w : World) (_hB : B ≤ b) (hbk0 : w.heap[b]? = some (.cells #[c0, v] 91 (0, 0))) (h0 : c0 = .pointer none ∨ c0 = .pointer (some ⟨b, 0, none⟩)) (hown0 : w.ownsRow B 5 1 v n xs) (hne : v.ownBlock ≠ some b) (hlen : n + s.size ≤ 140737488355328) (hBw : B ≤ w.heap.size) :
    Calls Tryz.prog 53 #[.pointer (some ⟨b, 0, none⟩), .string s] w fun e w' => e = .returned (.tuple #[.int .i64 s.size, .nilIface]) ∧ Wrote B b n v xs s w w' := by
  obtain ⟨i0, hi, hz0, hz1, hz2⟩ := info_parts infoByte
  have hcc : Calls Tryz.prog 109 #[.pointer (some ⟨b, 0, none⟩)] w fun e w1 => e = .returned (.tuple #[]) ∧ (w1 = w ∨ w1 = w.setCell ⟨b, 0, none⟩ (.pointer (some ⟨b, 0, none⟩))) ∧ w1.heap[b]? = some (.cells #[.pointer (some ⟨b, 0, none⟩), v] 91 (0, 0)) ∧ w1.ownsRow B 5 1 v n xs ∧ w1.heap.size = w.heap.size := by
    rcases h0 with rfl | rfl
    · refine (copyCheck_fresh b w (by rw [Lib.cell_of_heap hbk0]; rfl) (by simp [World.shape?, hbk0]) (Lib.frozen_of_heap hbk0 0)).mono ?_
      rintro e w' ⟨rfl, rfl⟩
      refine ⟨rfl, .inr rfl, by simp [World.setCell, Array.getElem?_modify, hbk0], ownsRow_block hown0 fun x hx => Below.heap_setCell _ _ _ _ (fun e => hne (by rw [hx]; exact congrArg some e)), by simp [World.setCell]⟩
    · refine (copyCheck_used b w (by rw [Lib.cell_of_heap hbk0]; rfl)).mono ?_
      rintro e w' ⟨rfl, rfl⟩
      exact ⟨rfl, .inl rfl, hbk0, hown0, rfl⟩
  go_enter Tryz.func53, Tryz.ntmps53
  go_wp2_with (go_at_call 109; refine hcc.mono ?_)
  rintro e w1 ⟨rfl, hw1, hbk, hown, hs1⟩
  have c0 : w1.cell? ⟨b, 0, none⟩ = some (.pointer (some ⟨b, 0, none⟩)) := by rw [Lib.cell_of_heap hbk]; rfl
  have c1 : w1.cell? ⟨b, 1, none⟩ = some v := by rw [Lib.cell_of_heap hbk]; rfl
  have HW1 := Lib.hid hw1
  clear hw1 hcc
  go_wp2_with (at_builtin; refine wpList_append_str_at rfl _ _ 51 9 rfl B 5 i0 Tryz.underlying51 Tryz.underlying9 hi hz0 hz1 hz2 _ _ _ rfl hown s rfl ?c4 ?c5 ?_)
  case c4 => omega
  case c5 => omega
  intro v' w2 hown' hgrow hat
  have hlt : b < w1.heap.size := (Array.getElem?_eq_some_iff.1 hbk).1
  have hb2 : w2.heap[b]? = some (.cells #[.pointer (some ⟨b, 0, none⟩), v] 91 (0, 0)) := by
    rw [hgrow.block b hlt (fun e => hne e.symm)]
    exact hbk
  have d0 : w2.cell? ⟨b, 0, none⟩ = some (.pointer (some ⟨b, 0, none⟩)) := by rw [Lib.cell_of_heap hb2]; rfl
  have d1 : w2.cell? ⟨b, 1, none⟩ = some v := by rw [Lib.cell_of_heap hb2]; rfl
  have f1 : w2.frozen? ⟨b, 1, none⟩ = false := Lib.frozen_of_heap hb2 1
  obtain ⟨ao, n', cap, rfl⟩ : ∃ ao n' cap, v' = .slice ao n' cap := by
    rcases hown'.2 with ⟨hv, _⟩ | ⟨g, cap, cur, hv, _⟩
    · exact ⟨_, _, _, hv⟩
    · exact ⟨_, _, _, hv⟩
  have HW := Lib.hid hown'
  have HG := Lib.hid hgrow
  have HB1 := Lib.hid hbk
  have HA := Lib.hid hat
  clear hown' hgrow hb2 hbk hat
  go_wp2
  go_ret2
  exact ⟨rfl, w1, _, w2, HW1.out, HB1.out, HW.out, HG.out, HA.out, rfl⟩
end Go.Proofs.YtnnolijagpakiaaGreatDoor
namespace Go.Proofs.YtnnolijagpakiaaGreatDoor
open Go Go.RowKit
def bytesR (l : List UInt8) : List (List D) := l.map fun c => [.raw (.int .u8 c.toNat)]
theorem bytesR_length (l : List UInt8) : (bytesR l).length = l.length := by simp [bytesR]
theorem bytesR_get (l : List UInt8) (i : Nat) (h : i < l.length) (h' : i < (bytesR l).length) : (bytesR l)[i] = [.raw (.int .u8 l[i].toNat)] := by simp [bytesR]
theorem reads_bytes {w : World} {base : Nat} {v : Value} {l : List UInt8} {F : Nat → Nat → Prop} (hown : w.ownsRow base 5 1 v l.length (Lib.byteCells l)) (hF : ∀ b o, v.ownBlock = some b → o < l.length → F b o) : Reads w F (.sl (bytesR l)) v := by
  rcases hown.2 with ⟨rfl, h0⟩ | ⟨gb, cap, cur, hv, _, _, hcap, _⟩
  · have : l = [] := List.eq_nil_of_length_eq_zero h0
    subst this
    exact .nil _ _
  · have hc := hown.cells (g := gb) (by rw [hv]; rfl)
    rw [hv, ← bytesR_length l]
    refine Reads.mk (st := 1) (by rw [bytesR_length]; exact hcap) (fun i hi => by rw [bytesR_get l i (by rw [bytesR_length] at hi; exact hi)]; rfl) fun i hi j hj => ?_
    have hil : i < l.length := by rw [bytesR_length] at hi; exact hi
    have hj0 : j = 0 := by rw [bytesR_get l i hil] at hj; simpa using hj
    subst hj0
    have h1 := hc i (Value.int .u8 l[i].toNat) (by simp [Lib.byteCells, hil])
    rw [Addr.add_lit] at h1
    refine ⟨hF _ _ (by rw [hv]; rfl) (by omega), _, by simpa using h1, ?_⟩
    simp only [bytesR_get l i hil, List.getElem_cons_zero]
    exact .raw _
theorem bytes_of_reads {w : World} {base : Nat} {v : Value} {l : List UInt8} {F : Nat → Nat → Prop} {xs : List Value} (hown : w.ownsRow base 5 1 v l.length xs) (h : Reads w F (.sl (bytesR l)) v) : xs = Lib.byteCells l := by
  have hxl : xs.length = l.length := by simpa using hown.1
  refine List.ext_getElem (by rw [Lib.byteCells_length]; exact hxl) fun i hi hi' => ?_
  have hil : i < l.length := by omega
  rcases hown.2 with ⟨_, h0⟩ | ⟨gb, cap, cur, hv, _⟩
  · omega
  · have hc := hown.cells (g := gb) (by rw [hv]; rfl) i xs[i] (List.getElem?_eq_getElem hi)
    rw [Addr.add_lit] at hc
    rw [hv] at h
    obtain ⟨b1, off1, he, hr⟩ := h.row i (by rw [bytesR_length]; exact hil) (st := 1) (by rw [bytesR_get l i hil]; rfl)
    injection he with he
    have e1 : gb = b1 := congrArg Addr.block he
    have e2 : 0 = off1 := congrArg Addr.off he
    subst e1 e2
    obtain ⟨_, u, hu, hru⟩ := hr 0 (by rw [bytesR_get l i hil]; exact Nat.zero_lt_one)
    simp only [bytesR_get l i hil, List.getElem_cons_zero] at hru
    have hu' := hru.raw_eq
    have h2 : w.cell? ⟨gb, 0 + i * 1 + 0, none⟩ = w.cell? ⟨gb, 0 + i, none⟩ := by rw [Nat.mul_one, Nat.add_zero]
    rw [h2] at hu
    have h3 : xs[i] = u := Option.some.inj (hc.symm.trans hu)
    rw [h3, hu']
    simp [Lib.byteCells]
theorem byteCells_append (l : List UInt8) (s : ByteArray) : Lib.byteCells l ++ Lib.strCells s = Lib.byteCells (l ++ s.data.toList) := by simp [Lib.byteCells, Lib.strCells]
variable {A : Base Tryz.prog} {σ : St} {g : Gh} {a : Act} {w : World}
theorem Ok.builder (hk : Ok A σ g a w) {r q : Nat} {c0 : AV} {l : List UInt8} (hb : σ.blk r = some (.cell 91 [c0, .grow q (bytesR l)])) (hln : lentN r = false) (h0 : c0 = .d (.raw (.pointer none)) ∨ c0 = .box r 0) (ht : σ.tok q = some ⟨1, 5, l.length, none⟩) :
    ∃ p0, A.B ≤ g.m r ∧ w.heap[g.m r]? = some (.cells #[p0, g.tv q] 91 (0, 0)) ∧ (p0 = .pointer none ∨ p0 = .pointer (some ⟨g.m r, 0, none⟩)) ∧ w.ownsRow A.B 5 1 (g.tv q) l.length (Lib.byteCells l) ∧ (g.tv q).ownBlock ≠ some (g.m r) ∧ Has g σ.tk w (.grow q (bytesR l)) (g.tv q) := by
  obtain ⟨hBr, arr, hbk, hal, hcs⟩ := hk.blk r _ hb
  match arr, hal with
  | [p0, v], _ =>
    have h1 := hcs 0 (by simp) (by simp)
    have h2 := hcs 1 (by simp) (by simp)
    simp only [List.getElem_cons_zero, List.getElem_cons_succ] at h1 h2
    obtain ⟨xs, hown⟩ := (hk.tok q _ ht).own rfl
    obtain ⟨hrd, htv⟩ := h2.grow_eq
    have hve : v = g.tv q := (htv l.length (by simp [St.tk, ht])).2 (bytesR_length l)
    subst hve
    have hxs := bytes_of_reads hown hrd
    subst hxs
    refine ⟨p0, ?_, hbk, ?_, hown, fun e => hk.tokblk q _ r _ _ ht hb e rfl, h2⟩
    · rcases hBr with h | h
      · exact h
      · have h2 := h.2
        unfold lentB at h2
        rw [hln, Bool.or_false] at h2
        cases h2
    · rcases h0 with rfl | rfl
      · exact .inl h1.raw_eq
      · exact .inr h1.box_eq
theorem Ok.isBuilder (hk : Ok A σ g a w) {r q : Nat} {c0 : AV} {l : List UInt8} (hb : σ.blk r = some (.cell 91 [c0, .grow q (bytesR l)])) (hln : lentN r = false) (h0 : c0 = .d (.raw (.pointer none)) ∨ c0 = .box r 0) (ht : σ.tok q = some ⟨1, 5, l.length, none⟩) :
    Lib.IsBuilder 91 5 A.B (g.m r) (Lib.byteCells l) w := by
  obtain ⟨p0, h1, h2, h3, h4, h5, _⟩ := hk.builder hb hln h0 ht
  rcases h3 with rfl | rfl
  · exact .inl ⟨h1, _, h2, by rw [Lib.byteCells_length]; exact h4, h5⟩
  · exact .inr ⟨h1, _, h2, by rw [Lib.byteCells_length]; exact h4, h5⟩
theorem run_call2 {o : Oper} {c : Call} {p : Operand} {f : FuncId} (hk : Ok A σ g a w) (ho : o.op = .call c) (hp : c.callee = .value p) (hf : σ.eval p = .fn f []) (hen : Enters Tryz.prog f) : (execOp a.eval o).run Tryz.prog w = .ok (.enter f (c.args.toList.map a.eval).toArray) w := by
  have hpe := hk.eval p
  rw [hf] at hpe
  obtain ⟨vs, hv, hvl, hvs⟩ := hpe.fn_eq
  obtain rfl : vs = [] := List.eq_nil_of_length_eq_zero hvl.symm
  simp only [execOp, ho, resolve, hp, hv, Deferred.ofValue, Sem.run_bind, Sem.run_pure, Result.andThen_ok, invoke]
  rw [run_callFunc hen]
  have he : #[] ++ c.args.map a.eval ++ [].toArray = (c.args.toList.map a.eval).toArray := by
    apply Array.ext'; simp
  rw [he]
theorem opOk_write {o : Oper} {c : Call} {p m x : Operand} {r q : Nat} {c0 : AV} {l : List UInt8} {s : ByteArray} (ho : o.op = .call c) (hp : c.callee = .value p) (hf : σ.eval p = .fn 53 []) (hargs : c.args.toList = [m, x]) (hm : σ.eval m = .box r 0) (hx : σ.eval x = .d (.raw (.string s)))
    (hb : σ.blk r = some (.cell 91 [c0, .grow q (bytesR l)])) (hln : lentN r = false) (h0 : c0 = .d (.raw (.pointer none)) ∨ c0 = .box r 0) (ht : σ.tok q = some ⟨1, 5, l.length, none⟩) (hlen : l.length + s.size ≤ 140737488355328) :
    OpOk Tryz.prog A o σ ((σ.setTok q (some ⟨1, 5, l.length + s.size, none⟩)).setBlk r (some (.cell 91 [.box r 0, .grow q (bytesR (l ++ s.data.toList))]))) (.tup [.d (.raw (.int .i64 s.size)), .d (.raw .nilIface)]) := by
  intro g a w hk K Q hK
  have hr := run_call2 hk ho hp hf ⟨_, Tryz.func53, by decide +kernel, rfl⟩
  have hme := hk.eval m
  rw [hm] at hme
  have hxe := hk.eval x
  rw [hx] at hxe
  obtain ⟨p0, hB, hbk, hp0, hown, hne, hgr⟩ := hk.builder hb hln h0 ht
  refine wpE_call hr ?_
  rw [hargs]
  simp only [List.map_cons, List.map_nil, hme.box_eq, hxe.raw_eq]
  refine (writeString_raw A.B (g.m r) l.length p0 (g.tv q) (Lib.byteCells l) s w hB hbk hp0 hown hne hlen hk.hB).mono ?_
  rintro e w' ⟨rfl, w1, v', w2, hw1, hbk1, hown2, hgrow, ⟨hat, hv0⟩, rfl⟩
  -- the first cell
  have hoth1 : ∀ b, b ≠ g.m r → w1.heap[b]? = w.heap[b]? := fun b hne => by
    rcases hw1 with rfl | rfl
    · rfl
    · exact Below.heap_setCell _ _ _ _ hne
  have hsz1 : w1.heap.size = w.heap.size := by
    rcases hw1 with rfl | rfl
    · rfl
    · simp [World.setCell]
  have hbel1 : Below A.B w w1 := by
    rcases hw1 with rfl | rfl
    · exact Below.refl _ _
    · exact (Below.refl _ _).setCell (p := ⟨g.m r, 0, none⟩) hB _
  have e1 : Ext (fun _ => False) g σ.tk w g σ.tk w1 := ⟨fun _ _ h => h, fun b o u hf hu => (cell_block (hoth1 b fun e => hk.Fblk r _ hb o (e ▸ hf))).trans hu, fun _ _ => rfl, fun q _ n' hn' => ⟨n', hn', Nat.le_refl _, fun _ => rfl⟩, fun b es c hf hu => (hoth1 b fun e => hk.Fblk r _ hb 0 (e ▸ hf)).trans hu⟩
  obtain ⟨hk1, _⟩ := hk.write (k' := .cell 91 [.box r 0, .grow q (bytesR l)]) hb hoth1 hsz1 (.of hbel1) ⟨[.pointer (some ⟨g.m r, 0, none⟩), g.tv q], hbk1, rfl, fun j hj hj' => by
    match j, hj with
    | 0, _ => exact .box r 0
    | 1, _ => exact hgr.mono e1 fun _ _ => id⟩
  -- the bytes
  have ht1 : (σ.setBlk r (some (.cell 91 [.box r 0, .grow q (bytesR l)]))).tok q = some ⟨1, 5, l.length, none⟩ := ht
  have hB1 := hk1.hB
  have hbel2 : Below A.B w1 w2 := ⟨hgrow.os, hgrow.tape, hgrow.output, hgrow.size, fun b hb' => hgrow.block b (by omega) (fun e => by have := (hown.lt b e.symm).1; omega)⟩
  have hown1 : w1.ownsRow A.B 5 1 (g.tv q) l.length (Lib.byteCells l) := ownsRow_block hown fun x hx => hoth1 x fun e => hne (by rw [hx, e])
  have hkeep : ∀ x o, (g.tv q).ownBlock = some x → o < l.length * 1 → w2.cell? ⟨x, o, none⟩ = w1.cell? ⟨x, o, none⟩ := fun x o hx' ho' => by
    rcases hat with h2 | ⟨_, h2⟩
    · have hl := Lib.byteCells_length l
      have h1 := hown1.cells (g := x) hx' o (Lib.byteCells l)[o] (List.getElem?_eq_getElem (by omega))
      rw [Addr.add_lit, Nat.zero_add] at h1
      rw [h1]
      have h3 := hown2.cells (g := x) (h2.trans hx') o (Lib.byteCells l)[o] (by rw [List.getElem?_append_left (by omega)]; exact List.getElem?_eq_getElem (by omega))
      rw [Addr.add_lit, Nat.zero_add] at h3
      exact h3
    · exact cell_block (h2 x (hown1.lt x hx').2)
  obtain ⟨hk2, _⟩ := hk1.append (m := s.size) (v' := v') (w' := w2) ht1 rfl hown2 hgrow hbel2 hkeep (hat.imp id And.left) hv0
  -- the second cell
  have hb2 : ((σ.setBlk r (some (.cell 91 [.box r 0, .grow q (bytesR l)]))).setTok q (some ⟨1, 5, l.length + s.size, none⟩)).blk r = some (.cell 91 [.box r 0, .grow q (bytesR l)]) := by
    rw [St.blk_setTok, St.blk_setBlk, if_pos rfl]
  have hoth2 : ∀ b, b ≠ g.m r → (w2.setCell ⟨g.m r, 1, none⟩ v').heap[b]? = w2.heap[b]? := fun b hne => Below.heap_setCell _ _ _ _ hne
  have hlt1 : g.m r < w1.heap.size := (Array.getElem?_eq_some_iff.1 hbk1).1
  have hbk2 : w2.heap[g.m r]? = some (.cells #[.pointer (some ⟨g.m r, 0, none⟩), g.tv q] 91 (0, 0)) := by
    rw [hgrow.block _ hlt1 fun e => hne e.symm]; exact hbk1
  have hne2 : v'.ownBlock ≠ some (g.m r) := fun e => by
    rcases hat with h2 | ⟨h2, _⟩
    · exact hne (h2.symm.trans e)
    · rw [h2] at e; injection e with e; omega
  have hll : (l ++ s.data.toList).length = l.length + s.size := by
    rw [List.length_append]; rfl
  have hown3 : (w2.setCell ⟨g.m r, 1, none⟩ v').ownsRow A.B 5 1 v' (l ++ s.data.toList).length (Lib.byteCells (l ++ s.data.toList)) := by
    rw [hll, ← byteCells_append]
    exact ownsRow_block hown2 fun x hx => hoth2 x fun e => hne2 (by rw [hx, e])
  have htk : ((σ.setBlk r (some (.cell 91 [.box r 0, .grow q (bytesR l)]))).setTok q (some ⟨1, 5, l.length + s.size, none⟩)).tk q = some (l.length + s.size) := by simp [St.tk, St.tok_setTok]
  obtain ⟨hk3, _⟩ := hk2.write (k' := .cell 91 [.box r 0, .grow q (bytesR (l ++ s.data.toList))]) hb2 hoth2 (by simp [World.setCell]) (.of ((Below.refl _ _).setCell (p := ⟨g.m r, 1, none⟩) hB _)) ⟨[.pointer (some ⟨g.m r, 0, none⟩), v'], by simp [World.setCell, Array.getElem?_modify, hbk2], rfl, fun j hj hj' => by
    match j, hj with
    | 0, _ => exact .box r 0
    | 1, _ =>
      refine .grow q _ _ (reads_bytes hown3 fun b o hb' ho' => .inr ⟨hb', by show o < (l.length + s.size) * 1; omega⟩) fun n' hn' => ?_
      rw [htk] at hn'
      cases hn'
      rw [bytesR_length, hll]
      exact ⟨Nat.le_refl _, fun _ => (updN_same g.tv q v').symm⟩⟩
  refine hK _ _ _ (hk3.sub (fun t => .inr rfl) (fun r' => .inr ?_) (fun r' => .inr rfl)) (.tup _ [.int .i64 s.size, .nilIface] rfl fun i hi hv => ?_)
  · rw [St.blk_setBlk, St.blk_setBlk, St.blk_setTok, St.blk_setTok, St.blk_setBlk]
    by_cases e : r = r'
    · rw [if_pos e, if_pos e]
    · rw [if_neg e, if_neg e, if_neg e]
  · match i, hi with
    | 0, _ => exact .d (.raw _)
    | 1, _ => exact .d (.raw _)
theorem goWrite (n : Nat) {all : List Oper} {f : FuncId} {o : Oper} {rest : List Oper} {i base : Nat} {st : List Itm} {Q : Exit → St → Prop} {c : Call} {p m x : Operand} {r q : Nat} {c0 : AV} {l : List UInt8} {s : ByteArray} (ho : o.op = .call c) (hp : c.callee = .value p) (hf : σ.eval p = .fn 53 []) (hargs : c.args.toList = [m, x]) (hm : σ.eval m = .box r 0) (hx : σ.eval x = .d (.raw (.string s)))
    (hb : σ.blk r = some (.cell 91 [c0, .grow q (bytesR l)])) (h0 : c0 = .d (.raw (.pointer none)) ∨ c0 = .box r 0) (ht : σ.tok q = some ⟨1, 5, l.length, none⟩) (hlen : l.length + s.size ≤ 140737488355328) (hd : dstOk A.N o = true)
    (hr : go Tryz.prog A n (.ops all rest (i + 1) base) st (((σ.setTok q (some ⟨1, 5, l.length + s.size, none⟩)).setBlk r (some (.cell 91 [.box r 0, .grow q (bytesR (l ++ s.data.toList))]))).put o.dst (.tup [.d (.raw (.int .i64 s.size)), .d (.raw .nilIface)])) Q) (hln : lentN r = false := by rfl) : SemM Tryz.prog A (.exe (some f) all o rest i base) st σ Q :=
  satE_op (opOk_write ho hp hf hargs hm hx hb hln h0 ht hlen) hd (go_ok n _ _ _ _ hr)
theorem opOk_bstring {o : Oper} {c : Call} {p m : Operand} {r q : Nat} {c0 : AV} {l : List UInt8} (ho : o.op = .call c) (hp : c.callee = .value p) (hf : σ.eval p = .fn 56 []) (hargs : c.args.toList = [m]) (hm : σ.eval m = .box r 0)
    (hb : σ.blk r = some (.cell 91 [c0, .grow q (bytesR l)])) (hln : lentN r = false) (h0 : c0 = .d (.raw (.pointer none)) ∨ c0 = .box r 0) (ht : σ.tok q = some ⟨1, 5, l.length, none⟩) :
    OpOk Tryz.prog A o σ ⟨[], [], []⟩ (.d (.raw (.string ⟨l.toArray⟩))) := by
  intro g a w hk K Q hK
  have hr := run_call2 hk ho hp hf ⟨_, Tryz.func56, by decide +kernel, rfl⟩
  have hme := hk.eval m
  rw [hm] at hme
  have hib := hk.isBuilder hb hln h0 ht
  refine wpE_call hr ?_
  rw [hargs]
  simp only [List.map_cons, List.map_nil, hme.box_eq]
  refine (Tryz.Builder_String_any A.B (g.m r) l w hib hk.hB).mono ?_
  rintro e w' ⟨rfl, hbel⟩
  have hs := hbel.size
  have hB := hk.hB
  refine hK ⟨g.m, g.tv, A.F0⟩ _ _ ⟨hk.below.trans (.of hbel), by omega, fun _ _ h => h, fun _ _ h => .inl h, fun b o hf => by have := hk.Fb b o (hk.F0 b o hf); omega, hk.defers, hk.size, fun t => .dead _, fun r b h => by simp [St.blk, look] at h, fun r b h => by simp [St.blk, look] at h, fun r b r' b' h => by simp [St.blk, look] at h, fun r k h => by simp [St.tok, look] at h, fun r k x h => by simp [St.tok, look] at h, fun r k r' b x h => by simp [St.tok, look] at h, fun r k r' k' x h => by simp [St.tok, look] at h, hk.fix, fun r n0 _ n hn => by simp [St.tk, St.tok, look] at hn⟩ (.d (.raw _))
theorem goString (n : Nat) {all : List Oper} {f : FuncId} {o : Oper} {rest : List Oper} {i base : Nat} {st : List Itm} {Q : Exit → St → Prop} {c : Call} {p m : Operand} {r q : Nat} {c0 : AV} {l : List UInt8} (ho : o.op = .call c) (hp : c.callee = .value p) (hf : σ.eval p = .fn 56 []) (hargs : c.args.toList = [m]) (hm : σ.eval m = .box r 0)
    (hb : σ.blk r = some (.cell 91 [c0, .grow q (bytesR l)])) (h0 : c0 = .d (.raw (.pointer none)) ∨ c0 = .box r 0) (ht : σ.tok q = some ⟨1, 5, l.length, none⟩) (hd : dstOk A.N o = true)
    (hr : go Tryz.prog A n (.ops all rest (i + 1) base) st (St.put ⟨[], [], []⟩ o.dst (.d (.raw (.string ⟨l.toArray⟩)))) Q) (hln : lentN r = false := by rfl) : SemM Tryz.prog A (.exe (some f) all o rest i base) st σ Q :=
  satE_op (opOk_bstring ho hp hf hargs hm hb hln h0 ht) hd (go_ok n _ _ _ _ hr)
end Go.Proofs.YtnnolijagpakiaaGreatDoor
namespace Go.Proofs.YtnnolijagpakiaaGreatDoor
open Go Go.RowKit
def betwL : List ByteArray → List ByteArray → List UInt8
  | [], _ => []
  | f :: fs, [] => f.data.toList ++ betwL fs []
  | f :: fs, s :: ss => f.data.toList ++ s.data.toList ++ betwL fs ss
def nthB (l : List ByteArray) (i : Nat) : List UInt8 := if h : i < l.length then l[i].data.toList else []
theorem betwL_split : ∀ (a b ss : List ByteArray), betwL (a ++ b) ss = betwL a ss ++ betwL b (ss.drop a.length)
  | [], b, ss => by simp [betwL]
  | f :: a, b, [] => by simp [betwL, betwL_split a b []]
  | f :: a, b, s :: ss => by simp [betwL, betwL_split a b ss]
theorem betwL_succ (fs ss : List ByteArray) (q : Nat) (h : q < fs.length) : betwL (fs.take (q + 1)) ss = betwL (fs.take q) ss ++ (fs[q].data.toList ++ nthB ss q) := by
  rw [List.take_succ_eq_append_getElem h, betwL_split]
  congr 1
  rw [List.length_take, Nat.min_eq_left (by omega)]
  unfold nthB
  by_cases hq : q < ss.length
  · rw [dif_pos hq]
    rw [List.drop_eq_getElem_cons hq]
    simp [betwL]
  · rw [dif_neg hq, List.drop_eq_nil_of_le (by omega)]
    simp [betwL]
theorem betwL_take_le (fs ss : List ByteArray) (q : Nat) : (betwL (fs.take q) ss).length ≤ (betwL fs ss).length := by
  have h := betwL_split (fs.take q) (fs.drop q) ss
  rw [List.take_append_drop] at h
  rw [h, List.length_append]
  omega
abbrev bwSt (fixed subs : List ByteArray) (c0 : AV) (q : Nat) (l : List UInt8) : St := ⟨[(1, .d (.sl (encS subs))), (6, .box 1000 0), (9, .d (.sl (encS fixed))), (10, .d (.raw (.int .i64 fixed.length))), (11, .d (.raw (.int .i64 q)))], [(1000, some (.cell 91 [c0, .grow 99 (bytesR l)]))], [(99, some ⟨1, 5, l.length, none⟩)]⟩
set_option maxRecDepth 100000 in
set_option maxHeartbeats 8000000 in
theorem betweenF_c (e : Ex) (fixed subs : List ByteArray) (hf : fixed.length ≤ 1099511627776) (_hs : subs.length ≤ 1099511627776) (hb : (betwL fixed subs).length ≤ 140737488355328) :
    Con Tryz.prog 153 [avE e, .d (.sl (encS subs)), .at_ [.sl (encS fixed)]] (.d (.raw (.string ⟨(betwL fixed subs).toArray⟩))) := by
  refine con_of Tryz.func153 rfl (by decide +kernel) rfl (by obtain ⟨k, n, m, i, d, s⟩ := e; rfl) (by simp [Tryz.ntmps153]) fun A hA => ?_
  rw [Tryz.ntmps153] at hA
  obtain ⟨k, n, m, i, d, s⟩ := e
  refine goC 300 ?_
  simp only [go_sem, hA, avE, encE, encS_length]
  refine satC_growCell 99 1000 1 1 5 (by simp only [go_sem]) rfl rfl ?_
  refine satC_loop [1, 6, 9, 10, 11] [1000] [99] (fun y σ => ∃ (q : Nat) (c0 : AV), q ≤ fixed.length ∧ y = fixed.length - q ∧ (c0 = .d (.raw (.pointer none)) ∨ c0 = .box 1000 0) ∧ σ = bwSt fixed subs c0 q (betwL (fixed.take q) subs)) fixed.length ⟨0, _, by omega, by omega, .inl rfl, by simp only [go_sem, betwL]; rfl⟩ ?_
  rintro y σ ⟨q, c0, hq, rfl, hc0, rfl⟩
  have hcl0 : c0 = .d (.raw (.pointer none)) ∨ c0 = .box 1000 0 := hc0
  refine goC 300 ?_
  by_cases hlt : q < fixed.length
  · have k1 : decide ((q : Int) < (fixed.length : Int)) = true := decide_eq_true (by omega)
    have htl := betwL_take_le fixed subs q
    have htl1 := betwL_take_le fixed subs (q + 1)
    have hsucc := betwL_succ fixed subs q hlt
    rw [hsucc, List.length_append, List.length_append] at htl1
    have hfs : fixed[q].data.toList.length = fixed[q].size := rfl
    simp only [go_sem, hA, bwSt, encS_length, k1, Int.toNat_natCast, encS_at fixed q hlt]
    refine ⟨⟨by omega, by omega⟩, ?_⟩
    refine goWrite 300 (c0 := c0) (l := betwL (fixed.take q) subs) (s := fixed[q]) rfl rfl rfl rfl rfl rfl rfl hc0 rfl (by omega) (by simp only [go_sem, hA]) ?_
    by_cases hqs : q < subs.length
    · have k2 : decide ((q : Int) < (subs.length : Int)) = true := decide_eq_true (by omega)
      have hnth : nthB subs q = subs[q].data.toList := by unfold nthB; rw [dif_pos hqs]
      have hss : subs[q].data.toList.length = subs[q].size := rfl
      rw [hnth] at hsucc htl1
      simp only [go_sem, hA, encS_length, k2, Int.toNat_natCast, encS_at subs q hqs]
      refine ⟨⟨by omega, by omega⟩, ?_⟩
      refine goWrite 300 (c0 := .box 1000 0) (l := betwL (fixed.take q) subs ++ fixed[q].data.toList) (s := subs[q]) rfl rfl rfl rfl rfl rfl rfl (.inr rfl) (by rw [List.length_append]; rfl) (by rw [List.length_append]; omega) (by simp only [go_sem, hA]) ?_
      simp only [go_sem, hA]
      have hA1 : betwL (fixed.take (q + 1)) subs = betwL (fixed.take q) subs ++ fixed[q].data.toList ++ subs[q].data.toList := by rw [hsucc, List.append_assoc]
      have hA2 : (betwL (fixed.take q) subs ++ fixed[q].data.toList).length + subs[q].size = (betwL (fixed.take (q + 1)) subs).length := by rw [hA1, List.length_append (bs := subs[q].data.toList)]; rfl
      exact ⟨by unfold inI64; omega, fixed.length - (q + 1), by omega, q + 1, .box 1000 0, by omega, rfl, .inr rfl, by rw [hA2, ← hA1]; rfl⟩
    · have k2 : decide ((q : Int) < (subs.length : Int)) = false := decide_eq_false (by omega)
      have hnth : nthB subs q = [] := by unfold nthB; rw [dif_neg hqs]
      rw [hnth] at hsucc htl1
      simp only [go_sem, hA, encS_length, k2]
      have hA1 : betwL (fixed.take (q + 1)) subs = betwL (fixed.take q) subs ++ fixed[q].data.toList := by rw [hsucc, List.append_nil]
      have hA2 : (betwL (fixed.take q) subs).length + fixed[q].size = (betwL (fixed.take (q + 1)) subs).length := by rw [hA1, List.length_append (bs := fixed[q].data.toList)]; rfl
      exact ⟨by unfold inI64; omega, fixed.length - (q + 1), by omega, q + 1, .box 1000 0, by omega, rfl, .inr rfl, by rw [hA2, ← hA1]; rfl⟩
  · have k1 : decide ((q : Int) < (fixed.length : Int)) = false := decide_eq_false (by omega)
    obtain rfl : q = fixed.length := by omega
    simp only [go_sem, hA, bwSt, k1, List.take_length]
    refine goString 300 (c0 := c0) (l := betwL fixed subs) rfl rfl rfl rfl rfl rfl hc0 rfl (by simp only [go_sem, hA]) ?_
    simp only [go_sem, hA, Tryz.results153]
end Go.Proofs.YtnnolijagpakiaaGreatDoor
namespace Go.Proofs.YtnnolijagpakiaaGreatDoor
open Go Go.RowKit
theorem ba_of {x : ByteArray} {l : List UInt8} (h : x.data.toList = l) : x = ⟨l.toArray⟩ := by
  subst h; rfl
def exN (k : Int) (len : Nat) : Bool := decide ((k = 7 ∨ k = 12 → len = 2) ∧ (k = 9 ∨ k = 15 → len = 3) ∧ (k = 11 → len = 0) ∧ 1 ≤ k ∧ k ≤ 15)
mutual
def fullE : Ex → Bool
  | .mk k n m i d s => okN k n m i d s.length && exN k s.length && fullL s
def fullL : List Ex → Bool
  | [] => true
  | e :: es => fullE e && fullL es
end
theorem fullL_get : ∀ {l : List Ex} (i : Nat) (h : i < l.length), fullL l = true → fullE l[i] = true
  | e :: es, 0, _, h => by simp only [fullL, Bool.and_eq_true] at h; simpa using h.1
  | e :: es, i + 1, hi, h => by
    simp only [fullL, Bool.and_eq_true] at h
    simpa using fullL_get i (by simpa using hi) h.2
mutual
theorem fullE_ok : ∀ t : Ex, fullE t = true → okE t = true
  | .mk k n m i d s, h => by
    simp only [fullE, Bool.and_eq_true] at h
    simp only [okE, Bool.and_eq_true]
    exact ⟨h.1.1, fullL_ok s h.2⟩
theorem fullL_ok : ∀ l : List Ex, fullL l = true → okL l = true
  | [], _ => rfl
  | e :: es, h => by
    simp only [fullL, Bool.and_eq_true] at h
    simp only [okL, Bool.and_eq_true]
    exact ⟨fullE_ok e h.1, fullL_ok es h.2⟩
end
def KindC (t : Ex) (L : List ByteArray) : Prop := ∃ j f cs, findIx (.int .i64 t.kind) txKeys = some j ∧ txVals[j]? = some (.fn f cs) ∧ (cs = [] ∨ ∃ fx, cs = [.at_ [.sl (encS fx)]]) ∧
    Con Tryz.prog f ([avE t, .d (.sl (encS L))] ++ cs) (.d (.raw (.string (nodeText t.kind t.name t.more t.int t.den L))))
theorem kind_plain {t : Ex} {L : List ByteArray} {f : FuncId} (j : Nat) (h1 : findIx (.int .i64 t.kind) txKeys = some j) (h2 : txVals[j]? = some (.fn f [])) (h : Con Tryz.prog f [avE t, .d (.sl (encS L))] (.d (.raw (.string (nodeText t.kind t.name t.more t.int t.den L))))) : KindC t L :=
  ⟨j, f, [], h1, h2, .inl rfl, h⟩
theorem kind_betw {t : Ex} {L fx : List ByteArray} (j : Nat) (h1 : findIx (.int .i64 t.kind) txKeys = some j) (h2 : txVals[j]? = some (.fn 153 [.at_ [.sl (encS fx)]])) (hf : fx.length ≤ 1099511627776) (hs : L.length ≤ 1099511627776) (hb : (betwL fx L).length ≤ 140737488355328)
    (he : (nodeText t.kind t.name t.more t.int t.den L).data.toList = betwL fx L) : KindC t L := by
  refine ⟨j, _, _, h1, h2, .inr ⟨fx, rfl⟩, ?_⟩
  rw [ba_of he]
  exact betweenF_c t fx L hf hs hb
theorem kind_c (t : Ex) (L : List ByteArray) (hok : okN t.kind t.name t.more t.int t.den L.length = true) (hex : exN t.kind L.length = true) (hL : sumB L ≤ 1099511627776) : KindC t L := by
  obtain ⟨har, hn, hm, hi, hd, hk5⟩ := okN_iff hok
  simp only [exN, decide_eq_true_eq] at hex
  obtain ⟨h2, h3, h0, hlo, hhi⟩ := hex
  have hc : t.kind = 1 ∨ t.kind = 2 ∨ t.kind = 3 ∨ t.kind = 4 ∨ t.kind = 6 ∨ t.kind = 7 ∨ t.kind = 8 ∨ t.kind = 9 ∨ t.kind = 10 ∨ t.kind = 11 ∨ t.kind = 12 ∨ t.kind = 13 ∨ t.kind = 14 ∨ t.kind = 15 := by omega
  rcases hc with hk | hk | hk | hk | hk | hk | hk | hk | hk | hk | hk | hk | hk | hk
  · exact kind_plain 0 (by rw [hk]; rfl) rfl (texts_1 t L hk hok hL)
  · exact kind_plain 1 (by rw [hk]; rfl) rfl (texts_2 t L hk hok hL)
  · exact kind_plain 2 (by rw [hk]; rfl) rfl (texts_3 t L hk hok hL)
  · exact kind_plain 3 (by rw [hk]; rfl) rfl (texts_4 t L hk hok hL)
  · exact kind_plain 4 (by rw [hk]; rfl) rfl (texts_6 t L hk hok hL)
  · obtain ⟨a, b, rfl⟩ : ∃ a b, L = [a, b] := by
      match L, h2 (.inl hk) with
      | [a, b], _ => exact ⟨a, b, rfl⟩
    refine kind_betw (fx := fixA) 5 (by rw [hk]; rfl) rfl (by decide) (by simp) ?_ ?_
    · simp only [sumB] at hL
      simp [betwL, fixA, bs] <;> omega
    · rw [hk]
      simp [nodeText, betwL, fixA, bs, atB]
  · exact kind_plain 6 (by rw [hk]; rfl) rfl (texts_8 t L hk hok hL)
  · obtain ⟨a, b, c, rfl⟩ : ∃ a b c, L = [a, b, c] := by
      match L, h3 (.inl hk) with
      | [a, b, c], _ => exact ⟨a, b, c, rfl⟩
    refine kind_betw (fx := fixB) 7 (by rw [hk]; rfl) rfl (by decide) (by simp) ?_ ?_
    · simp only [sumB] at hL
      simp [betwL, fixB, bs] <;> omega
    · rw [hk]
      simp [nodeText, betwL, fixB, bs, atB]
  · exact kind_plain 8 (by rw [hk]; rfl) rfl (texts_10 t L hk hok hL)
  · obtain rfl : L = [] := List.eq_nil_of_length_eq_zero (h0 hk)
    refine kind_betw (fx := fixC) 9 (by rw [hk]; rfl) rfl (by decide) (by simp) (by decide) ?_
    rw [hk]
    simp [nodeText, betwL, fixC, bs]
  · obtain ⟨a, b, rfl⟩ : ∃ a b, L = [a, b] := by
      match L, h2 (.inr hk) with
      | [a, b], _ => exact ⟨a, b, rfl⟩
    refine kind_betw (fx := fixD) 10 (by rw [hk]; rfl) rfl (by decide) (by simp) ?_ ?_
    · simp only [sumB] at hL
      simp [betwL, fixD, bs] <;> omega
    · rw [hk]
      simp [nodeText, betwL, fixD, bs, atB]
  · exact kind_plain 11 (by rw [hk]; rfl) rfl (texts_13 t L hk hok hL)
  · exact kind_plain 12 (by rw [hk]; rfl) rfl (texts_14 t L hk hok hL)
  · obtain ⟨a, b, c, rfl⟩ : ∃ a b c, L = [a, b, c] := by
      match L, h3 (.inr hk) with
      | [a, b, c], _ => exact ⟨a, b, c, rfl⟩
    refine kind_betw (fx := fixE) 13 (by rw [hk]; rfl) rfl (by decide) (by simp) ?_ ?_
    · simp only [sumB] at hL
      simp [betwL, fixE, bs] <;> omega
    · rw [hk]
      simp [nodeText, betwL, fixE, bs, atB]
end Go.Proofs.YtnnolijagpakiaaGreatDoor
namespace Go.Proofs.YtnnolijagpakiaaGreatDoor
open Go Go.RowKit
theorem txVals_ment (r : Nat) : mentL r txVals = false := rfl
theorem txVals_frz (r : Nat) (b : Blk) : frzL r b txVals = txVals := rfl
def tpR (s : List Ex) (q : Nat) : List ByteArray := txL (s.take q) ++ List.replicate (s.length - q) ⟨#[]⟩
theorem tpR_length (s : List Ex) (q : Nat) (h : q ≤ s.length) : (tpR s q).length = s.length := by
  simp [tpR, txL_length]; omega
theorem tpR_zero (s : List Ex) : List.replicate s.length [D.raw (Value.string ⟨#[]⟩)] = encS (tpR s 0) := by
  simp [tpR, txL, encS]
theorem tpR_all (s : List Ex) : tpR s s.length = txL s := by simp [tpR]
theorem tpR_set (s : List Ex) (q : Nat) (h : q < s.length) : (encS (tpR s q)).set q [.raw (.string (txE s[q]))] = encS (tpR s (q + 1)) := by
  have hl : (txL (s.take q)).length = q := by simp [txL_length]; omega
  unfold tpR encS
  rw [txL_take_succ s q h, show s.length - q = (s.length - (q + 1)) + 1 by omega, List.replicate_succ, List.map_append, List.map_append, List.map_append, List.set_append_right _ _ (by simp [hl]), List.length_map, hl, Nat.sub_self, List.map_cons, List.set_cons_zero]
  simp
theorem tpR_row (s : List Ex) (q : Nat) (h : q < s.length) : (encS (tpR s q)).getD q [] = [D.raw (Value.string ⟨#[]⟩)] := by
  have hl : (txL (s.take q)).length = q := by simp [txL_length]; omega
  rw [encS_at _ q (by rw [tpR_length s q (by omega)]; exact h)]
  simp [tpR, hl]
abbrev tpSt (k : Int) (n m : ByteArray) (i d : Int) (s : List Ex) (q : Nat) : St :=
  ⟨[(1, .mapd txKeys txVals), (2, .box 0 0), (5, .own 1003 s.length), (13, .d (.sl (encL s))), (14, .d (.raw (.int .i64 s.length))), (15, .d (.raw (.int .i64 q)))],
   [(0, some (.cell 36 (cellsX k n m i d s))), (1003, some (.row 1 9 (encS (tpR s q))))], []⟩
set_option maxRecDepth 100000 in
set_option maxHeartbeats 8000000 in
theorem text_step (N : Nat) (ih : ∀ t : Ex, nodesE t < N → nodesE t ≤ 1048576 → fullE t = true → Con Tryz.prog 47 [avE t, .mapd txKeys txVals] (.d (.raw (.string (txE t)))))
    (k : Int) (n m : ByteArray) (i d : Int) (s : List Ex) (hN : nodesE (.mk k n m i d s) < N + 1) (hb : nodesE (.mk k n m i d s) ≤ 1048576) (hok : fullE (.mk k n m i d s) = true) :
    Con Tryz.prog 47 [avE (.mk k n m i d s), .mapd txKeys txVals] (.d (.raw (.string (txE (.mk k n m i d s))))) := by
  rw [nodesE] at hN hb
  have hlen := length_le_nodesL s
  have hok' := hok
  simp only [fullE, Bool.and_eq_true] at hok
  obtain ⟨⟨hok1, hex⟩, hokL⟩ := hok
  have hLs := txL_size s (fullL_ok s hokL)
  obtain ⟨j, f, cs, hj1, hj2, hcs, hcon⟩ := kind_c (.mk k n m i d s) (txL s) (by rw [txL_length]; exact hok1) (by rw [txL_length]; exact hex) (by omega)
  have hj1 : findIx (.int .i64 k) txKeys = some j := hj1
  have hcon : Con Tryz.prog f ([avE (.mk k n m i d s), .d (.sl (encS (txL s)))] ++ cs) (.d (.raw (.string (txE (.mk k n m i d s))))) := hcon
  refine con_of Tryz.func47 rfl (by decide +kernel) rfl rfl (by simp [Tryz.ntmps47]) fun A hA => ?_
  rw [Tryz.ntmps47] at hA
  refine goC 300 ?_
  simp only [go_sem, hA, avE, encE, encL_length, Int.toNat_natCast, txVals_ment]
  refine ⟨⟨by omega, by omega, by omega⟩, ?_⟩
  refine satC_loop [1, 2, 5, 13, 14, 15] [0, 1003] [] (fun y σ => ∃ q : Nat, q ≤ s.length ∧ y = s.length - q ∧ σ = tpSt k n m i d s q) s.length ⟨0, by omega, by omega, by simp only [go_sem, tpSt, cellsX, tpR_zero]⟩ ?_
  rintro y σ ⟨q, hq, rfl, rfl⟩
  refine goC 300 ?_
  have htl := tpR_length s q hq
  by_cases hlt : q < s.length
  · have k1 : decide ((q : Int) < (s.length : Int)) = true := decide_eq_true (by omega)
    have hn1 := nodesL_get s q hlt
    simp only [go_sem, hA, tpSt, cellsX, k1, Int.toNat_natCast, encL_length, encL_at s q hlt, txVals_ment]
    refine ⟨⟨by omega, by omega⟩, goCall 300 (ih s[q] (by omega) (by omega) (fullL_get q hlt hokL)) rfl (by simp only [go_sem, avE_eq]; rfl) (by simp only [go_sem, hA]) ?_⟩
    have hst := tpR_set s q hlt
    simp only [go_sem, hA, Int.toNat_natCast, encS_length, htl, hst, tpR_row s q hlt, txVals_ment]
    exact ⟨⟨by omega, by omega⟩, hlt, by unfold inI64; omega, s.length - (q + 1), by omega, q + 1, by omega, rfl, rfl⟩
  · have k1 : decide ((q : Int) < (s.length : Int)) = false := decide_eq_false (by omega)
    obtain rfl : q = s.length := by omega
    simp only [go_sem, hA, tpSt, cellsX, k1, hj1, hj2, txVals_ment, tpR_all]
    refine ⟨rfl, goFrz 1003 ?_⟩
    have htk : (encS (txL s)).take s.length = encS (txL s) := List.take_of_length_le (by rw [encS_length, txL_length]; omega)
    rcases hcs with rfl | ⟨fx, rfl⟩
    · simp only [go_sem, txVals_frz, encS_length, txL_length]
      refine goCallF 300 hcon rfl rfl rfl (by simp only [go_sem, avE_eq]; rfl) (by simp only [go_sem, hA]) ?_
      simp only [go_sem, hA, txVals_ment, Tryz.results47]
    · simp only [go_sem, txVals_frz, encS_length, txL_length]
      refine goCallF 300 hcon rfl rfl rfl (by simp only [go_sem, avE_eq]; rfl) (by simp only [go_sem, hA]) ?_
      simp only [go_sem, hA, txVals_ment, Tryz.results47]
theorem text_c (N : Nat) : ∀ t : Ex, nodesE t < N → nodesE t ≤ 1048576 → fullE t = true → Con Tryz.prog 47 [avE t, .mapd txKeys txVals] (.d (.raw (.string (txE t)))) := by
  induction N with
  | zero => intro t h; omega
  | succ N ih => intro t h hb hok; cases t; exact text_step N ih _ _ _ _ _ _ h hb hok
end Go.Proofs.YtnnolijagpakiaaGreatDoor
