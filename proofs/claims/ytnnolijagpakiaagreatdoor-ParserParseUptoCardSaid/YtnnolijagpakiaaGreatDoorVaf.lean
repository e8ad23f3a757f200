/- Texts of this proof, part 6: what the proof uses of them. -/
import Derived.Test.YtnnolijagpakiaaGreatDoorVae
import Derived.Test.YtnnolijagpakiaaGreatDoorProg
namespace Go.Proofs.YtnnolijagpakiaaGreatDoor
section
section
open Go Go.RowKit
theorem cells_3 : Tryz.prog.cellsOf 3 = 1 := by kernel_rfl
theorem bytes_3 : Tryz.prog.bytesOf 3 = 8 := by kernel_rfl
theorem zero_3 : zeroOf Tryz.prog 3 = some (.int .i64 0) := by kernel_rfl
theorem agg_3 : aggOf Tryz.prog 3 = some false := by kernel_rfl
theorem cells_4 : Tryz.prog.cellsOf 4 = 1 := by kernel_rfl
theorem zero_4 : zeroOf Tryz.prog 4 = some (.bool false) := by kernel_rfl
theorem agg_4 : aggOf Tryz.prog 4 = some false := by kernel_rfl
theorem cells_9 : Tryz.prog.cellsOf 9 = 1 := by kernel_rfl
theorem bytes_9 : Tryz.prog.bytesOf 9 = 16 := by kernel_rfl
theorem zero_9 : zeroOf Tryz.prog 9 = some (.string ⟨#[]⟩) := by kernel_rfl
theorem agg_9 : aggOf Tryz.prog 9 = some false := by kernel_rfl
theorem cells_23 : Tryz.prog.cellsOf 23 = 1 := by kernel_rfl
theorem agg_23 : aggOf Tryz.prog 23 = some false := by kernel_rfl
theorem cells_24 : Tryz.prog.cellsOf 24 = 1 := by kernel_rfl
theorem agg_24 : aggOf Tryz.prog 24 = some false := by kernel_rfl
theorem cells_26 : Tryz.prog.cellsOf 26 = 2 := by kernel_rfl
theorem zero_26 : zeroOf Tryz.prog 26 = some (.agg #[.slice none 0 0, .slice none 0 0]) := by kernel_rfl
theorem agg_26 : aggOf Tryz.prog 26 = some true := by kernel_rfl
theorem cells_32 : Tryz.prog.cellsOf 32 = 1 := by kernel_rfl
theorem agg_32 : aggOf Tryz.prog 32 = some false := by kernel_rfl
theorem cells_34 : Tryz.prog.cellsOf 34 = 1 := by kernel_rfl
theorem agg_34 : aggOf Tryz.prog 34 = some false := by kernel_rfl
theorem cells_36 : Tryz.prog.cellsOf 36 = 6 := by kernel_rfl
theorem bytes_36 : Tryz.prog.bytesOf 36 = 80 := by kernel_rfl
theorem zero_36 : zeroOf Tryz.prog 36 = some (.agg #[.int .i64 0, .string ⟨#[]⟩, .string ⟨#[]⟩, .int .i64 0, .int .i64 0, .slice none 0 0]) := by kernel_rfl
theorem agg_36 : aggOf Tryz.prog 36 = some true := by kernel_rfl
theorem cells_43 : Tryz.prog.cellsOf 43 = 3 := by kernel_rfl
theorem bytes_43 : Tryz.prog.bytesOf 43 = 32 := by kernel_rfl
theorem zero_43 : zeroOf Tryz.prog 43 = some (.agg #[.int .i64 0, .string ⟨#[]⟩, .int .i64 0]) := by kernel_rfl
theorem agg_43 : aggOf Tryz.prog 43 = some true := by kernel_rfl
theorem cells_57 : Tryz.prog.cellsOf 57 = 11 := by kernel_rfl
theorem zero_57 : zeroOf Tryz.prog 57 = some (.agg #[.int .i64 0, .int .i64 0, .bool false, .slice none 0 0, .bool false, .int .i64 0, .string ⟨#[]⟩, .string ⟨#[]⟩, .int .i64 0, .int .i64 0, .slice none 0 0]) := by kernel_rfl
theorem agg_57 : aggOf Tryz.prog 57 = some true := by kernel_rfl
theorem cells_58 : Tryz.prog.cellsOf 58 = 1 := by kernel_rfl
theorem zero_58 : zeroOf Tryz.prog 58 = some (.pointer none) := by kernel_rfl
theorem agg_58 : aggOf Tryz.prog 58 = some false := by kernel_rfl
theorem cells_59 : Tryz.prog.cellsOf 59 = 1 := by kernel_rfl
theorem agg_59 : aggOf Tryz.prog 59 = some false := by kernel_rfl
theorem cells_60 : Tryz.prog.cellsOf 60 = 1 := by kernel_rfl
theorem zero_60 : zeroOf Tryz.prog 60 = some (.slice none 0 0) := by kernel_rfl
theorem agg_60 : aggOf Tryz.prog 60 = some false := by kernel_rfl
theorem zero_62 : zeroOf Tryz.prog 62 = some (.agg #[.slice none 0 0, .int .i64 0, .slice none 0 0, .slice none 0 0, .slice none 0 0, .slice none 0 0]) := by kernel_rfl
theorem cells_69 : Tryz.prog.cellsOf 69 = 3 := by kernel_rfl
theorem zero_69 : zeroOf Tryz.prog 69 = some (.agg #[.slice none 0 0, .int .i64 0, .bool false]) := by kernel_rfl
theorem agg_69 : aggOf Tryz.prog 69 = some true := by kernel_rfl
theorem zero_102 : zeroOf Tryz.prog 102 = some (.agg #[.int .i64 0]) := by kernel_rfl
theorem cells_120 : Tryz.prog.cellsOf 120 = 11 := by kernel_rfl
theorem bytes_120 : Tryz.prog.bytesOf 120 = 128 := by kernel_rfl
theorem zero_120 : zeroOf Tryz.prog 120 = some (.agg #[.int .i64 0, .string ⟨#[]⟩, .int .i64 0, .string ⟨#[]⟩, .string ⟨#[]⟩, .int .i64 0, .int .i64 0, .slice none 0 0, .int .i64 0, .int .i64 0, .int .i64 0]) := by kernel_rfl
theorem agg_120 : aggOf Tryz.prog 120 = some true := by kernel_rfl
theorem zero_150 : zeroOf Tryz.prog 150 = some (.nilFunc) := by kernel_rfl
theorem mixed : Tryz.prog.follows .mixedOrders = true := by kernel_rfl
attribute [go_sem] Tryz.underlying1 Tryz.underlying2 zero_3 cells_3 bytes_3 agg_3 Tryz.underlying3 zero_4 cells_4 agg_4 Tryz.underlying4 Tryz.underlying5 Tryz.underlying6 Tryz.underlying7 Tryz.underlying8 zero_9 cells_9 bytes_9 agg_9 Tryz.underlying9 Tryz.underlying10 Tryz.underlying11 Tryz.underlying12 Tryz.underlying13 Tryz.underlying14 Tryz.underlying15 Tryz.underlying16 Tryz.underlying17 Tryz.underlying18 Tryz.underlying19 Tryz.underlying20 Tryz.underlying21 Tryz.underlying22 cells_23 agg_23 Tryz.underlying23 cells_24 agg_24 Tryz.underlying24 Tryz.underlying25 zero_26 cells_26 agg_26 Tryz.underlying26 Tryz.underlying27 Tryz.underlying29 Tryz.underlying30 Tryz.underlying31 cells_32 agg_32 Tryz.underlying32 Tryz.underlying33 cells_34 agg_34 Tryz.underlying34 Tryz.underlying35 zero_36 cells_36 bytes_36 agg_36 Tryz.underlying36 Tryz.underlying38 Tryz.underlying39 Tryz.underlying41 Tryz.underlying42 zero_43 cells_43 bytes_43 agg_43 Tryz.underlying43 Tryz.underlying44 Tryz.underlying45 Tryz.underlying47 Tryz.underlying49 Tryz.underlying50 Tryz.underlying51 Tryz.underlying52 Tryz.underlying53 Tryz.underlying54 Tryz.underlying55 Tryz.underlying56 zero_57 cells_57 agg_57 Tryz.underlying57 zero_58 cells_58 agg_58 Tryz.underlying58 cells_59 agg_59 Tryz.underlying59 zero_60 cells_60 agg_60 Tryz.underlying60 Tryz.underlying61 zero_62 Tryz.underlying62 Tryz.underlying64 Tryz.underlying66 Tryz.underlying67 Tryz.underlying68 zero_69 cells_69 agg_69 Tryz.underlying69 Tryz.underlying71 Tryz.underlying72 Tryz.underlying73 Tryz.underlying74 Tryz.underlying75 Tryz.underlying76 Tryz.underlying77 Tryz.underlying79 Tryz.underlying80 Tryz.underlying81 Tryz.underlying82 Tryz.underlying83 Tryz.underlying84 Tryz.underlying86 Tryz.underlying87 Tryz.underlying88 Tryz.underlying89 Tryz.underlying90 Tryz.underlying91 Tryz.underlying92 Tryz.underlying93 Tryz.underlying95 Tryz.underlying96 Tryz.underlying97 Tryz.underlying98 Tryz.underlying99 Tryz.underlying100 Tryz.underlying101 zero_102 Tryz.underlying102 Tryz.underlying104 Tryz.underlying106 Tryz.underlying107 Tryz.underlying108 Tryz.underlying109 Tryz.underlying110 Tryz.underlying111 Tryz.underlying113 Tryz.underlying114 Tryz.underlying115 Tryz.underlying116 Tryz.underlying117 Tryz.underlying118 Tryz.underlying119 zero_120 cells_120 bytes_120 agg_120 Tryz.underlying120 Tryz.underlying121 Tryz.underlying122 Tryz.underlying123 Tryz.underlying124 Tryz.underlying125 Tryz.underlying126 Tryz.underlying127 Tryz.underlying128 Tryz.underlying129 Tryz.underlying130 Tryz.underlying131 Tryz.underlying132 Tryz.underlying133 Tryz.underlying134 Tryz.underlying135 Tryz.underlying136 Tryz.underlying137 Tryz.underlying138 Tryz.underlying139 Tryz.underlying140 Tryz.underlying141 Tryz.underlying142 Tryz.underlying143 Tryz.underlying144 Tryz.underlying145 Tryz.underlying147 Tryz.underlying149 zero_150 Tryz.underlying150 Tryz.underlying151 Tryz.underlying152 Tryz.underlying153 Tryz.underlying154 Tryz.underlying155 Tryz.underlying156 Tryz.underlying157 Tryz.underlying158 Tryz.underlying159 Tryz.underlying160 Tryz.underlying161 Tryz.underlying163 Tryz.underlying164 Tryz.underlying166 Tryz.underlying167 Tryz.underlying168 Tryz.underlying169 Tryz.underlying171 Tryz.underlying172 Tryz.underlying173 Tryz.underlying174 Tryz.underlying176 Tryz.underlying177 Tryz.underlying178 Tryz.underlying179 Tryz.underlying180 Tryz.underlying181 Tryz.underlying183 Tryz.underlying185 Tryz.underlying186 Tryz.underlying188 Tryz.underlying189 Tryz.underlying190 Tryz.underlying191 Tryz.underlying192 Tryz.underlying193 Tryz.underlying194 Tryz.underlying195 Tryz.underlying197 Tryz.underlying198 Tryz.underlying199 Tryz.underlying200 Tryz.underlying202 Tryz.underlying203 Tryz.underlying204 Tryz.underlying205 Tryz.underlying206 Tryz.underlying207 Tryz.underlying208 Tryz.underlying210 Tryz.underlying211 Tryz.underlying213 Tryz.underlying215 Tryz.underlying216 Tryz.underlying217 Tryz.underlying218 Tryz.underlying219 Tryz.underlying220 Tryz.underlying221 Tryz.underlying222 Tryz.underlying223 Tryz.underlying225 Tryz.underlying226 Tryz.underlying227 Tryz.underlying228 Tryz.underlying229 Tryz.underlying230 Tryz.underlying231 Tryz.underlying232 Tryz.underlying233 Tryz.underlying234 Tryz.underlying235 Tryz.underlying236 mixed
end
end
section
open Go Go.RowKit
def stkN (r : Nat) : Bool := decide (910 ≤ r) && decide (r < 1000)
theorem fixN_lent {r : Nat} (h : fixN r = true) : lentN r = true := by
 simp only [fixN, lentN, Bool.and_eq_true, decide_eq_true_eq] at h ⊢; omega
theorem stkN_lent {r : Nat} (h : stkN r = true) : lentN r = true := by
 simp only [stkN, lentN, Bool.and_eq_true, decide_eq_true_eq] at h ⊢; omega
def AV.killS (x : AV) : AV := x
def Blk.killS (b : Blk) : Option Blk := some b
structure Lent where
 blks : List (Nat × Option Blk)
 toks : List (Nat × Option Tok)
def killSB (L : Lent) (x : Nat × Option Blk) : Nat × Option Blk := (x.1, if (look L.blks x.1).isSome = true then none else x.2.bind Blk.killS)
def killSK (x : Nat × Option Tok) : Nat × Option Tok := (x.1, if stkN x.1 = true then none else x.2)
def St.callL (σ : St) (L L' : Lent) : St := ⟨σ.env.map fun x => (x.1, x.2.killS), L'.blks ++ σ.blks.map (killSB L), L'.toks ++ σ.toks.map killSK⟩
theorem look_append {α : Type} : ∀ (a b : List (Nat × α)) (r : Nat), look (a ++ b) r = match look a r with
  | some v => some v
  | none => look b r
 | [], b, r => rfl
 | x :: a, b, r => by
  simp only [List.cons_append, look]
  by_cases h : x.1 = r
  ·rw [if_pos h, if_pos h]
  ·rw [if_neg h, if_neg h]; exact look_append a b r
theorem look_killSE : ∀ (l : List (Nat × AV)) (t : Nat), look (l.map fun x => (x.1, x.2.killS)) t = (look l t).map AV.killS
 | [], t => rfl
 | x :: l, t => by
  simp only [List.map_cons, look]
  split
  ·rfl
  ·exact look_killSE l t
theorem look_killSB (L : Lent) : ∀ (l : List (Nat × Option Blk)) (q : Nat), look (l.map (killSB L)) q = (look l q).map fun b => if (look L.blks q).isSome = true then none else b.bind Blk.killS
 | [], q => rfl
 | x :: l, q => by
  simp only [List.map_cons, killSB, look]
  by_cases h : x.1 = q
  ·rw [if_pos h, if_pos h, h]; rfl
  ·rw [if_neg h, if_neg h]; exact look_killSB L l q
def AV.lentOk : AV → Bool
 | .dead | .d _ => true
 | .box r _ => fixN r
 | .stk r _ _ _ _ => stkN r
 | _ => false
def Blk.lentOk : Blk → Bool
 | .cell _ cs => cs.all AV.lentOk
 | .obj _ => true
 | _ => false
theorem look_killSK : ∀ (l : List (Nat × Option Tok)) (q : Nat), look (l.map killSK) q = (look l q).map fun b => if stkN q = true then none else b
 | [], q => rfl
 | x :: l, q => by
  simp only [List.map_cons, killSK, look]
  by_cases h : x.1 = q
  ·rw [if_pos h, if_pos h, h]; rfl
  ·rw [if_neg h, if_neg h]; exact look_killSK l q
def Lent.blk (L : Lent) (r : Nat) (b : Blk) : Prop := look L.blks r = some (some b)
def Lent.tok (L : Lent) (r : Nat) (k : Tok) : Prop := look L.toks r = some (some k)
def Lent.tk (L : Lent) (r : Nat) : Option Nat := ((look L.toks r).getD none).map (·.len)
theorem Lent.tk_some {L : Lent} {r n : Nat} (h : L.tk r = some n) : ∃ k, L.tok r k ∧ k.len = n := by
 unfold Lent.tk at h
 unfold Lent.tok
 cases hl : look L.toks r with
 | none => rw [hl] at h; simp at h
 | some x =>
  cases x with
  | none => rw [hl] at h; simp at h
  | some k => rw [hl] at h; simp at h; exact ⟨k, rfl, h⟩
section
variable {P : Program} {A : Base P} {σ : St} {g : Gh} {a : Act} {w : World}
theorem St.get_callL (L L' : Lent) (t : Nat) : (σ.callL L L').get t = (σ.get t).killS := by
 unfold St.get St.callL
 rw [look_killSE]
 cases look σ.env t with
 | none => rfl
 | some x => rfl
theorem callL_blk {L L' : Lent} {q : Nat} {b : Blk} (h : (σ.callL L L').blk q = some b) : L'.blk q b ∨ (look L.blks q = none ∧ ∃ b', σ.blk q = some b' ∧ Blk.killS b' = some b) := by
 unfold St.blk St.callL at h
 simp only [look_append, look_killSB] at h
 unfold Lent.blk
 cases hL : look L'.blks q with
 | some v =>
  rw [hL] at h
  simp only [Option.getD_some] at h
  left; rw [h]
 | none =>
  rw [hL] at h
  right
  unfold St.blk
  cases hb : look σ.blks q with
  | none => rw [hb] at h; simp at h
  | some v =>
   rw [hb] at h
   simp only [Option.map_some, Option.getD_some] at h ⊢
   split at h
   ·cases h
   ·rename_i hn
    cases v with
    | none => cases h
    | some b' => exact ⟨by simpa using hn, b', rfl, h⟩
theorem callL_tok {L L' : Lent} {q : Nat} {k : Tok} (h : (σ.callL L L').tok q = some k) : L'.tok q k ∨ (stkN q = false ∧ σ.tok q = some k) := by
 unfold St.tok St.callL at h
 simp only [look_append, look_killSK] at h
 unfold Lent.tok
 cases hL : look L'.toks q with
 | some v =>
  rw [hL] at h
  simp only [Option.getD_some] at h
  left; rw [h]
 | none =>
  rw [hL] at h
  right
  unfold St.tok
  cases hb : look σ.toks q with
  | none => rw [hb] at h; simp at h
  | some v =>
   rw [hb] at h
   simp only [Option.map_some, Option.getD_some] at h ⊢
   split at h
   ·cases h
   ·rename_i hn; exact ⟨by simpa using hn, h⟩
structure LentOk (P : Program) (F : Nat → Nat → Prop) (m : Nat → Nat) (tv : Nat → Value) (w : World) (L : Lent) : Prop where
 nm : ∀ r b, L.blk r b → fixN r = true
 tnm : ∀ r k, L.tok r k → stkN r = true ∧ k.ex ≠ none
 lo : ∀ r b, L.blk r b → P.globals.size ≤ m r
 tlo : ∀ r k x, L.tok r k → (tv r).ownBlock = some x → P.globals.size ≤ x
 at_ : ∀ r b, L.blk r b → BlkAt ⟨m, tv, F⟩ L.tk w (m r) b
 tat : ∀ r k, L.tok r k → ∃ xs, w.ownsRow 0 k.ty k.st (tv r) k.n xs ∧ ∀ rows, k.ex = some rows → (∀ i (h : i < rows.length), rows[i].length = k.st) ∧ ∀ i (h : i < rows.length) j (hj : j < rows[i].length), ∃ u, xs[i * k.st + j]? = some u ∧ Reads w F rows[i][j] u
 nF : ∀ r b, L.blk r b → ∀ o, ¬ F (m r) o
 tF : ∀ r k x, L.tok r k → (tv r).ownBlock = some x → ∀ o, ¬ F x o
 inj : ∀ r b r' b', L.blk r b → L.blk r' b' → r ≠ r' → m r ≠ m r'
 tokblk : ∀ r k r' b x, L.tok r k → L.blk r' b → (tv r).ownBlock = some x → x ≠ m r'
 toktok : ∀ r k r' k' x, L.tok r k → L.tok r' k' → r ≠ r' → (tv r).ownBlock = some x → (tv r').ownBlock ≠ some x
theorem LentOk.tlt {F : Nat → Nat → Prop} {m : Nat → Nat} {tv : Nat → Value} {L : Lent} (h : LentOk P F m tv w L) {r : Nat} {k : Tok} {x : Nat} (hr : L.tok r k) (hx : (tv r).ownBlock = some x) : x < w.heap.size := by
 obtain ⟨xs, h1, _⟩ := h.tat r k hr
 exact (h1.lt x hx).2
def Lent.at (L : Lent) (m : Nat → Nat) (tv : Nat → Value) (x : Nat) : Prop := (∃ r b, L.blk r b ∧ x = m r) ∨ ∃ r k, L.tok r k ∧ (tv r).ownBlock = some x
inductive Out where
 | ret (res : AV) (L : Lent)
 | pan (v : Value)
def freshBut (F : Nat → Nat → Prop) (w w' : World) (m : Nat → Nat) (tv : Nat → Value) (L : Lent) : Nat → Nat → Prop := fun b o => F b o ∨ (w.heap.size ≤ b ∧ b < w'.heap.size ∧ ¬ L.at m tv b)
def ConL (P : Program) (f : FuncId) (args : List AV) (L : Lent) (post : Out → Prop) : Prop :=
 Enters P f ∧ ∀ (F : Nat → Nat → Prop) (w : World) (vs : List Value) (m : Nat → Nat) (tv : Nat → Value), (∀ b o, F b o → b < w.heap.size) → Glob P w → LentOk P F m tv w L → args.length = vs.length →
  (∀ i (hi : i < args.length) (hv : i < vs.length), Has ⟨m, tv, F⟩ L.tk w args[i] vs[i]) →
  Calls P f vs.toArray w fun e w' => BelowX w.heap.size (L.at m tv) w w' ∧
   ((∃ v res L' m' tv', e = .returned v ∧ post (.ret res L') ∧ res.closed = true ∧ (∀ r b, L'.blk r b → b.lentOk = true) ∧ (∀ r v, look L'.blks r = some v → fixN r = true) ∧ (∀ r v, look L'.toks r = some v → stkN r = true) ∧ HasC w' (freshBut F w w' m' tv' L') res v ∧ LentOk P (freshBut F w w' m' tv' L') m' tv' w' L' ∧
     (∀ r, fixN r = true → m' r = m r) ∧ (∀ r k', L'.tok r k' → ∃ k, L.tok r k ∧ k.len ≤ k'.len ∧ (k.len = k'.len → tv' r = tv r)) ∧ ∀ x, L'.at m' tv' x → L.at m tv x ∨ w.heap.size ≤ x) ∨
    ∃ pv, e = .panicked [{ v := pv, recovered := false }] ∧ post (.pan pv))
def AV.lbox : AV → Bool
 | .box r _ => lentN r
 | _ => false
def AV.lboxF : AV → Bool
 | .box r _ => lentN r
 | .fn _ cs => cs.all AV.lbox
 | _ => false
theorem Has.lboxF {tk tk' : Nat → Option Nat} {x : AV} {v : Value} (h : Has g tk w x v) (hx : x.lboxF = true) : Has g tk' w x v := by
 have key : ∀ (x : AV) (v : Value), x.lbox = true → Has g tk w x v → Has g tk' w x v := fun x v hx h => by
  cases h with
  | box r j => exact .box r j
  | _ => cases hx
 cases h with
 | box r j => exact .box r j
 | fn f cs vs hl hh => exact .fn f cs vs hl fun i hi hv => key _ _ (List.all_eq_true.1 hx _ (List.getElem_mem hi)) (hh i hi hv)
 | _ => cases hx
def AV.closeX (x : AV) : Option AV := if x.lboxF = true then some x else match x.close with
 | some y => if y.closed = true then some y else none
 | none => none
def closeXL : List AV → Option (List AV)
 | [] => some []
 | x :: xs => match x.closeX, closeXL xs with
  | some y, some ys => some (y :: ys)
  | _, _ => none
theorem closeXL_spec : ∀ {xs ys : List AV}, closeXL xs = some ys → xs.length = ys.length ∧ ∀ i (hi : i < xs.length) (hy : i < ys.length), xs[i].closeX = some ys[i]
 | [], ys, h => by cases h; simp
 | x :: xs, ys, h => by
  unfold closeXL at h
  split at h
  ·rename_i y ys' h1 h2
   cases h
   obtain ⟨h3, h4⟩ := closeXL_spec h2
   refine ⟨by simp [h3], fun i hi hy => ?_⟩
   cases i with
   | zero => simpa using h1
   | succ i => simpa using h4 i (by simpa using hi) (by simpa using hy)
  ·cases h
theorem Has.closeX {tk tk' : Nat → Option Nat} {x y : AV} {v : Value} (h : Has g tk w x v) (hx : x.closeX = some y) : Has g tk' w y v := by
 unfold AV.closeX at hx
 split at hx
 ·rename_i hl; cases hx; exact h.lboxF hl
 ·split at hx
  ·rename_i y' hy
   split at hx
   ·rename_i hc
    cases hx
    have h1 := h.close hy
    unfold HasC at h1
    exact h1.shut hc fun _ _ h => h
   ·cases hx
  ·cases hx
theorem callL_tk {L L' : Lent} {q n : Nat} (h : (σ.callL L L').tk q = some n) : L'.tk q = some n ∨ (stkN q = false ∧ σ.tk q = some n) := by
 unfold St.tk at h
 cases ht : (σ.callL L L').tok q with
 | none => rw [ht] at h; cases h
 | some k =>
  rw [ht] at h
  rcases callL_tok ht with h1 | ⟨h1, h2⟩
  ·left
   unfold Lent.tok at h1
   unfold Lent.tk
   rw [h1]; exact h
  ·right
   refine ⟨h1, ?_⟩
   unfold St.tk
   rw [h2]; exact h
structure Lends (σ : St) (L : Lent) : Prop where
 blk : ∀ r b, L.blk r b → σ.blk r = some b
 bnm : ∀ r b, L.blk r b → fixN r = true
 tok : ∀ r k, L.tok r k → σ.tok r = some k
 tnm : ∀ r k, L.tok r k → stkN r = true ∧ k.ex ≠ none
theorem Ok.at_lo (hk : Ok A σ g a w) {L : Lent} (hL : Lends σ L) {x : Nat} (h : L.at g.m g.tv x) : A.B ≤ x ∨ A.X x := by
 rcases h with ⟨r, b, h1, rfl⟩ | ⟨r, k, h1, h2⟩
 ·exact (hk.blk r b (hL.blk r b h1)).1.imp id fun h => h.1
 ·obtain ⟨xs, h3, h4, _⟩ := hk.tok r k (hL.tok r k h1)
  exact (h4 x h2).imp id fun h => h.1
theorem Ok.at_F (hk : Ok A σ g a w) {L : Lent} (hL : Lends σ L) {x o : Nat} (hf : g.F x o) : ¬ L.at g.m g.tv x := by
 rintro (⟨r, b, h1, rfl⟩ | ⟨r, k, h1, h2⟩)
 ·exact hk.Fblk r b (hL.blk r b h1) o hf
 ·exact (hL.tnm r k h1).2 (hk.Ftok r k x (hL.tok r k h1) h2 o hf).1
theorem Ok.at_blk (hk : Ok A σ g a w) {L : Lent} (hL : Lends σ L) {q : Nat} {b : Blk} (hq : look L.blks q = none) (hb : σ.blk q = some b) : ¬ L.at g.m g.tv (g.m q) := by
 rintro (⟨r, b', h1, e⟩ | ⟨r, k, h1, h2⟩)
 ·exact hk.inj q b r b' hb (hL.blk r b' h1) (fun h => by subst h; unfold Lent.blk at h1; rw [hq] at h1; cases h1) e
 ·exact hk.tokblk r k q b (g.m q) (hL.tok r k h1) hb h2 rfl
theorem Ok.at_tok (hk : Ok A σ g a w) {L : Lent} (hL : Lends σ L) {q x : Nat} {k : Tok} (hq : stkN q = false) (hb : σ.tok q = some k) (hx : (g.tv q).ownBlock = some x) : ¬ L.at g.m g.tv x := by
 rintro (⟨r, b', h1, e⟩ | ⟨r, k', h1, h2⟩)
 ·exact hk.tokblk q k r b' x hb (hL.blk r b' h1) hx e
 ·exact hk.toktok q k r k' x hb (hL.tok r k' h1) (fun h => by rw [h, (hL.tnm r k' h1).1] at hq; cases hq) hx h2
set_option maxHeartbeats 1000000 in
theorem Ok.callL (hk : Ok A σ g a w) {L L' : Lent} (hL : Lends σ L) {w' : World} {m' : Nat → Nat} {tv' : Nat → Value} (hbx : BelowX w.heap.size (L.at g.m g.tv) w w')
  (hok : ∀ r b, L'.blk r b → b.lentOk = true) (hl : LentOk P (freshBut g.F w w' m' tv' L') m' tv' w' L') (hfix : ∀ r, fixN r = true → m' r = g.m r) (hver : ∀ r k', L'.tok r k' → ∃ k, L.tok r k ∧ k.len ≤ k'.len ∧ (k.len = k'.len → tv' r = g.tv r)) (hat : ∀ x, L'.at m' tv' x → L.at g.m g.tv x ∨ w.heap.size ≤ x) :
  Ok A (σ.callL L L') ⟨g.m, fun r => if stkN r = true then tv' r else g.tv r, freshBut g.F w w' m' tv' L'⟩ a w' := by
 have hB := hk.hB
 have hs := hbx.size
 have hsame : ∀ b, b < w.heap.size → ¬ L.at g.m g.tv b → w'.heap[b]? = w.heap[b]? := fun b h1 h2 => hbx.block b h1 h2
 have hFs : ∀ b o, g.F b o → w'.heap[b]? = w.heap[b]? := fun b o hf => hsame b (hk.Fb b o hf) (hk.at_F hL hf)
 have hml : ∀ r, fixN r = true → g.m r = m' r := fun r h => (hfix r h).symm
 have htl : ∀ r, stkN r = true → (if stkN r = true then tv' r else g.tv r) = tv' r := fun r h => if_pos h
 have htn : ∀ r, stkN r = false → (if stkN r = true then tv' r else g.tv r) = g.tv r := fun r h => if_neg (by rw [h]; decide)
 have htk : ∀ r n, L'.tk r = some n → stkN r = true := fun r n h => by
  obtain ⟨k, h1, _⟩ := Lent.tk_some h
  exact (hl.tnm r k h1).1
 have e : Ext (fun _ => False) g σ.tk w ⟨g.m, fun r => if stkN r = true then tv' r else g.tv r, freshBut g.F w w' m' tv' L'⟩ (σ.callL L L').tk w' := ⟨fun _ _ h => .inl h, fun b o u hf hu => (cell_block (hFs b o hf)).trans hu, fun r _ => rfl, fun q _ n' hn' => by
       rcases callL_tk hn' with h | ⟨h1, h2⟩
       ·obtain ⟨k', h3, h4⟩ := Lent.tk_some h
        obtain ⟨k, h5, h6, h7⟩ := hver q k' h3
        refine ⟨k.len, by unfold St.tk; rw [hL.tok q k h5]; rfl, by omega, fun h8 => ?_⟩
        exact (htl q (htk q n' h)).trans (h7 (by omega))
       ·exact ⟨n', h2, Nat.le_refl _, fun _ => htn q h1⟩, fun b es c hf hu => (hFs b 0 hf).trans hu⟩
 have hbel : BelowX A.B A.X w w' := ⟨hbx.os, hbx.tape, hbx.output, hbx.size, fun k hk1 hk2 => hsame k (by omega) fun h => by
  rcases hk.at_lo hL h with h | h
  ·omega
  ·exact hk2 h⟩
 have hat' : ∀ x, L'.at m' tv' x → A.B ≤ x ∨ A.X x := fun x hx => by
  rcases hat x hx with h | h
  ·exact hk.at_lo hL h
  ·left; omega
 refine ⟨hk.below.trans hbel, by omega, fun b o h => .inl (hk.F0 b o h), fun b o hf => ?_, fun b o hf => ?_, hk.defers, hk.size, fun t => ?_, fun q b hq => ?_, fun q b hq o hf => ?_, fun q b1 q' b2 hq hq' hne => ?_, fun q k1 hq => ?_, fun q k1 x hq hx o hf => ?_, fun q k1 q' b x hq hq' hx => ?_, fun q k1 q' k2 x hq hq' hne hx => ?_, fun q hq => ?_, fun q n0 h0 n hn => ?_⟩
 ·rcases hf with h | h
  ·exact hk.Fn b o h
  ·right; omega
 ·rcases hf with h | h
  ·have := hk.Fb b o h; omega
  ·exact h.2.1
 ·rw [St.get_callL]
  exact (hk.env t).mono e fun _ _ => id
 ·rcases callL_blk hq with h | ⟨h1, b', h2, h3⟩
  ·have hn := hl.nm q b h
   simp only [hml q hn]
   refine ⟨(hat' _ (.inl ⟨q, b, h, rfl⟩)).imp id fun h => ⟨h, by unfold lentB; rw [fixN_lent hn, Bool.or_true]⟩, ?_⟩
   have hb := hl.at_ q b h
   have hc := hok q b h
   cases b with
   | cell ty cs =>
    obtain ⟨arr, c1, c2, c3⟩ := hb
    refine ⟨arr, c1, c2, fun j hj hj' => ?_⟩
    have key : ∀ (x : AV) (u : Value), x.lentOk = true → Has ⟨m', tv', freshBut g.F w w' m' tv' L'⟩ L'.tk w' x u → Has ⟨g.m, fun r => if stkN r = true then tv' r else g.tv r, freshBut g.F w w' m' tv' L'⟩ (σ.callL L L').tk w' x u := fun x u hx hh => by
     cases hh with
     | dead => exact .dead _
     | d h => exact .d h
     | box r j =>
      have := Has.box (g := ⟨g.m, fun r => if stkN r = true then tv' r else g.tv r, freshBut g.F w w' m' tv' L'⟩) (tk := (σ.callL L L').tk) (w := w') r j
      simp only [hml r hx] at this
      exact this
     | stk r st ver off len p cap hc hp h =>
      refine .stk r st ver off len p cap hc hp fun n hn => ?_
      simp only [htl r hx]
      rcases callL_tk hn with h' | ⟨h1, _⟩
      ·exact h n h'
      ·rw [show stkN r = true from hx] at h1; cases h1
     | _ => simp [AV.lentOk] at hx
    exact key _ _ (List.all_eq_true.1 hc _ (List.getElem_mem hj)) (c3 j hj hj')
   | obj o => exact hb
   | _ => simp [Blk.lentOk] at hc
  ·obtain ⟨h4, h5⟩ := hk.blk q b' h2
   have h6 : w'.heap[g.m q]? = w.heap[g.m q]? := hsame _ h5.lt (hk.at_blk hL h1 h2)
   cases h3
   exact ⟨h4, h5.mono e (fun _ _ => id) h6⟩
 ·rcases callL_blk hq with h | ⟨h1, b', h2, h3⟩
  ·simp only [hml q (hl.nm q b h)] at hf
   exact hl.nF q b h o hf
  ·rcases hf with h | h
   ·exact hk.Fblk q b' h2 o h
   ·have := (hk.blk q b' h2).2.lt; have h5 : w.heap.size ≤ g.m q := h.1; omega
 ·rcases callL_blk hq with h | ⟨h1, c1, h2, _⟩
  ·have hn := hl.nm q b1 h
   rcases callL_blk hq' with h' | ⟨h1', c2, h2', _⟩
   ·simp only [hml q hn, hml q' (hl.nm q' b2 h')]
    exact hl.inj q b1 q' b2 h h' hne
   ·simp only [hml q hn]
    rcases hat _ (.inl ⟨q, b1, h, rfl⟩) with h4 | h4
    ·exact fun e => hk.at_blk hL h1' h2' (e ▸ h4)
    ·have := (hk.blk q' c2 h2').2.lt; omega
  ·rcases callL_blk hq' with h' | ⟨h1', c2, h2', _⟩
   ·simp only [hml q' (hl.nm q' b2 h')]
    rcases hat _ (.inl ⟨q', b2, h', rfl⟩) with h4 | h4
    ·exact fun e => hk.at_blk hL h1 h2 (e ▸ h4)
    ·have := (hk.blk q c1 h2).2.lt; omega
   ·exact hk.inj q c1 q' c2 h2 h2' hne
 ·rcases callL_tok hq with h | ⟨h1, h2⟩
  ·obtain ⟨h3, h4⟩ := hl.tnm q k1 h
   simp only [htl q h3]
   obtain ⟨xs, h5, h6⟩ := hl.tat q k1 h
   exact ⟨xs, h5, fun x hx => (hat' x (.inr ⟨q, k1, h, hx⟩)).imp id fun h => ⟨h, h4⟩, h6⟩
  ·simp only [htn q h1]
   exact (hk.tok q k1 h2).mono e fun x hx => hsame x ((hk.tok q k1 h2).lt hx) (hk.at_tok hL h1 h2 hx)
 ·rcases callL_tok hq with h | ⟨h1, h2⟩
  ·simp only [htl q (hl.tnm q k1 h).1] at hx
   exact absurd hf (hl.tF q k1 x h hx o)
  ·simp only [htn q h1] at hx
   rcases hf with h | h
   ·exact hk.Ftok q k1 x h2 hx o h
   ·have := (hk.tok q k1 h2).lt hx; omega
 ·rcases callL_tok hq with h | ⟨h1, h2⟩
  ·have hn := (hl.tnm q k1 h).1
   simp only [htl q hn] at hx
   rcases callL_blk hq' with h' | ⟨h1', b', h2', _⟩
   ·simp only [hml q' (hl.nm q' b h')]
    exact hl.tokblk q k1 q' b x h h' hx
   ·rcases hat _ (.inr ⟨q, k1, h, hx⟩) with h4 | h4
    ·exact fun e => hk.at_blk hL h1' h2' (e ▸ h4)
    ·have h5 : g.m q' < w.heap.size := (hk.blk q' b' h2').2.lt
     exact fun e => by have e2 : x = g.m q' := e; omega
  ·simp only [htn q h1] at hx
   rcases callL_blk hq' with h' | ⟨h1', b', h2', _⟩
   ·simp only [hml q' (hl.nm q' b h')]
    rcases hat _ (.inl ⟨q', b, h', rfl⟩) with h4 | h4
    ·exact fun e => hk.at_tok hL h1 h2 hx (e ▸ h4)
    ·have := (hk.tok q k1 h2).lt hx; omega
   ·exact hk.tokblk q k1 q' b' x h2 h2' hx
 ·rcases callL_tok hq with h | ⟨h1, h2⟩
  ·have hn := (hl.tnm q k1 h).1
   simp only [htl q hn] at hx
   rcases callL_tok hq' with h' | ⟨h1', h2'⟩
   ·simp only [htl q' (hl.tnm q' k2 h').1]
    exact hl.toktok q k1 q' k2 x h h' hne hx
   ·simp only [htn q' h1']
    intro hx'
    rcases hat _ (.inr ⟨q, k1, h, hx⟩) with h4 | h4
    ·exact hk.at_tok hL h1' h2' hx' h4
    ·have := (hk.tok q' k2 h2').lt hx'; omega
  ·simp only [htn q h1] at hx
   rcases callL_tok hq' with h' | ⟨h1', h2'⟩
   ·simp only [htl q' (hl.tnm q' k2 h').1]
    intro hx'
    rcases hat _ (.inr ⟨q', k2, h', hx'⟩) with h4 | h4
    ·exact hk.at_tok hL h1 h2 hx h4
    ·have := (hk.tok q k1 h2).lt hx; omega
   ·simp only [htn q' h1']
    exact hk.toktok q k1 q' k2 x h2 h2' hne hx
 ·exact hk.fix q hq
 ·rcases callL_tk hn with h | ⟨h1, h2⟩
  ·obtain ⟨k', h3, h4⟩ := Lent.tk_some h
   obtain ⟨k, h5, h6, h7⟩ := hver q k' h3
   have h8 := hk.hist q n0 h0 k.len (by unfold St.tk; rw [hL.tok q k h5]; rfl)
   refine ⟨by omega, fun h9 => ?_⟩
   exact (htl q (htk q n h)).trans ((h7 (by omega)).trans (h8.2 (by omega)))
  ·have h3 := hk.hist q n0 h0 n h2
   exact ⟨h3.1, fun h4 => (htn q h1).trans (h3.2 h4)⟩
theorem Ok.nought (hk : Ok A σ g a w) {w' : World} (hbx : BelowX A.B A.X w w') (hs : w.heap.size ≤ w'.heap.size) : Ok A ⟨[], [], []⟩ ⟨g.m, g.tv, A.F0⟩ a w' := by
 have hB := hk.hB
 refine ⟨hk.below.trans hbx, by omega, fun _ _ h => h, fun _ _ h => .inl h, fun b o hf => by have := hk.Fb b o (hk.F0 b o hf); omega, hk.defers, hk.size, fun t => .dead _, fun r b h => by simp [St.blk, look] at h, fun r b h => by simp [St.blk, look] at h, fun r b r' b' h => by simp [St.blk, look] at h, fun r k h => by simp [St.tok, look] at h, fun r k x h => by simp [St.tok, look] at h, fun r k r' b x h => by simp [St.tok, look] at h, fun r k r' k' x h => by simp [St.tok, look] at h, hk.fix, fun r n0 _ n hn => by simp [St.tk, St.tok, look] at hn⟩
theorem opOk_callL {o : Oper} {f : FuncId} {c : Call} {p : Operand} {cs asL : List AV} {L : Lent} {post : Out → Prop} (ho : o.op = .call c) (hp : c.callee = .value p) (hf : σ.eval p = .fn f cs) (ha : closeXL (c.args.toList.map σ.eval ++ cs) = some asL) (hc : ConL P f asL L post) (hL : Lends σ L) (hk : Ok A σ g a w) (Kn : Act → World → Prop) (Q : Exit → Act → World → Prop)
  (hr : ∀ res L' g' v w', post (.ret res L') → Ok A (σ.callL L L') g' a w' → Has g' (σ.callL L L').tk w' res v → Kn (a.put o.dst v) w') (hpn : ∀ pv g' w', post (.pan pv) → Ok A ⟨[], [], []⟩ g' a w' → Q (.panic [{ v := pv, recovered := false }]) a w') : wpE A o a w Kn Q := by
 obtain ⟨hen, hcon⟩ := hc
 obtain ⟨hl, hg⟩ := closeXL_spec ha
 have hpe := hk.eval p
 rw [hf] at hpe
 obtain ⟨vs, hv, hvl, hvs⟩ := hpe.fn_eq
 have hr' : (execOp a.eval o).run P w = .ok (.enter f (c.args.toList.map a.eval ++ vs).toArray) w := by
  simp only [execOp, ho, resolve, hp, hv, Deferred.ofValue, Sem.run_bind, Sem.run_pure, Result.andThen_ok, invoke]
  rw [run_callFunc hen]
  have he : #[] ++ c.args.map a.eval ++ vs.toArray = (c.args.toList.map a.eval ++ vs).toArray := by
   apply Array.ext'; simp
  rw [he]
 have hlen : (c.args.toList.map a.eval ++ vs).length = asL.length := by rw [← hl]; simp [hvl]
 have e : Ext (fun _ => False) g σ.tk w ⟨g.m, g.tv, g.F⟩ L.tk w := ⟨fun _ _ h => h, fun _ _ _ _ h => h, fun _ _ => rfl, fun r _ n' hn' => by
  obtain ⟨k, h1, h2⟩ := Lent.tk_some hn'
  refine ⟨n', ?_, Nat.le_refl _, fun _ => rfl⟩
  unfold St.tk
  rw [hL.tok r k h1, ← h2]; rfl, fun _ _ _ _ h => h⟩
 have hlent : LentOk P g.F g.m g.tv w L := ⟨hL.bnm, hL.tnm, fun r b hr => (hk.blk r b (hL.blk r b hr)).1.elim (fun h => Nat.le_trans A.loB h) fun h => A.loX _ h.1, fun r k x hr hx => (hk.at_lo hL (.inr ⟨r, k, hr, hx⟩)).elim (fun h => Nat.le_trans A.loB h) (A.loX _),
  fun r b hr => (hk.blk r b (hL.blk r b hr)).2.mono e (fun _ _ => id) rfl, fun r k hr => by
   obtain ⟨xs, h1, _, h3⟩ := hk.tok r k (hL.tok r k hr)
   exact ⟨xs, h1, h3⟩, fun r b hr => hk.Fblk r b (hL.blk r b hr), fun r k x hr hx o hf => hk.at_F hL hf (.inr ⟨r, k, hr, hx⟩), fun r b r' b' h h' => hk.inj r b r' b' (hL.blk r b h) (hL.blk r' b' h'),
  fun r k r' b x h h' => hk.tokblk r k r' b x (hL.tok r k h) (hL.blk r' b h'), fun r k r' k' x h h' => hk.toktok r k r' k' x (hL.tok r k h) (hL.tok r' k' h')⟩
 refine wpE_call hr' ?_
 refine (hcon g.F w (c.args.toList.map a.eval ++ vs) g.m g.tv hk.Fb (A.glob w hk.below) hlent hlen.symm (fun i hi hv => ?_)).mono ?_
 ·have hi' : i < (c.args.toList.map σ.eval ++ cs).length := by omega
  have h1 := hg i hi' hi
  refine Has.closeX (g := g) (tk := σ.tk) ?_ h1
  rw [List.getElem_append, List.getElem_append]
  simp only [List.length_map]
  by_cases hlt : i < c.args.toList.length
  ·rw [dif_pos hlt, dif_pos hlt, List.getElem_map, List.getElem_map]; exact hk.eval _
  ·rw [dif_neg hlt, dif_neg hlt]
   exact hvs _ _ _
 ·rintro e w' ⟨hbx, h⟩
  rcases h with ⟨v, res, L', m', tv', rfl, hpost, hres, hok, _, _, hv, hl', hfix, hver, hat⟩ | ⟨pv, rfl, hpost⟩
  ·have h2 := hk.callL hL hbx hok hl' hfix hver hat
   exact hr res L' _ v w' hpost h2 (hv.open hres (fun _ _ h => h))
  ·refine hpn pv _ w' hpost (hk.nought ⟨hbx.os, hbx.tape, hbx.output, hbx.size, fun k hk1 hk2 => hbx.block k (by have := hk.hB; omega) fun h => ?_⟩ hbx.size)
   rcases hk.at_lo hL h with h | h
   ·omega
   ·exact hk2 h
theorem satE_callL {all : List Oper} {o : Oper} {rest : List Oper} {f : FuncId} {c : Call} {p : Operand} {cs asL : List AV} {L : Lent} {post : Out → Prop} {K : Exit → St → Prop} (ho : o.op = .call c) (hp : c.callee = .value p) (hf : σ.eval p = .fn f cs) (ha : closeXL (c.args.toList.map σ.eval ++ cs) = some asL) (hc : ConL P f asL L post)
  (hL : Lends σ L) (hd : dstOk A.N o = true)
  (hr : ∀ res L', post (.ret res L') → SatO P A all rest ((σ.callL L L').put o.dst res) K) (hpn : ∀ pv, post (.pan pv) → K (.panic [{ v := pv, recovered := false }]) ⟨[], [], []⟩) : SatE P A all o rest σ K := fun _g _a _w hk =>
 opOk_callL ho hp hf ha hc hL hk _ _ (fun res L' _g' _v w' hpost h1 h2 => hr res L' hpost _ _ w' (h1.put o.dst (dstOk_spec hd) h2)) fun pv _g' _w' hpost h1 => ⟨⟨[], [], []⟩, _, hpn pv hpost, h1⟩
def St.lends (σ : St) (bs ks : List Nat) : Lent := ⟨keepL σ.blk bs, keepL σ.tok ks⟩
def lentChk (σ : St) (bs ks : List Nat) : Bool := bs.all (fun r => fixN r && match σ.blk r with | some b => b.lentOk | none => true) && ks.all (fun r => stkN r && match σ.tok r with | some k => k.ex.isSome | none => true)
theorem look_keepL_mem {α : Type} (f : Nat → α) : ∀ (ts : List Nat) (t : Nat) (x : α), look (keepL f ts) t = some x → t ∈ ts ∧ x = f t
 | [], _, _, h => by cases h
 | u :: ts, t, x, h => by
  unfold keepL look at h
  by_cases e : u = t
  ·subst e; simp at h; exact ⟨.head _, h.symm⟩
  ·rw [if_neg e] at h
   have := look_keepL_mem f ts t x h
   exact ⟨.tail _ this.1, this.2⟩
theorem lends_blk {bs ks : List Nat} {r : Nat} {b : Blk} (h : (σ.lends bs ks).blk r b) : r ∈ bs ∧ σ.blk r = some b := by
 have := look_keepL_mem _ _ _ _ h
 exact ⟨this.1, this.2.symm⟩
theorem lends_tok {bs ks : List Nat} {r : Nat} {b : Tok} (h : (σ.lends bs ks).tok r b) : r ∈ ks ∧ σ.tok r = some b := by
 have := look_keepL_mem _ _ _ _ h
 exact ⟨this.1, this.2.symm⟩
theorem lentChk_spec {bs ks : List Nat} (h : lentChk σ bs ks = true) : Lends σ (σ.lends bs ks) ∧ ∀ r b, (σ.lends bs ks).blk r b → b.lentOk = true := by
 unfold lentChk at h
 rw [Bool.and_eq_true, List.all_eq_true, List.all_eq_true] at h
 have h1 : ∀ r b, (σ.lends bs ks).blk r b → fixN r = true ∧ b.lentOk = true := fun r b hb => by
  obtain ⟨h2, h3⟩ := lends_blk hb
  have := h.1 r h2
  simp only [h3, Bool.and_eq_true] at this
  exact this
 refine ⟨⟨fun r b hb => (lends_blk hb).2, fun r b hb => (h1 r b hb).1, fun r k hb => (lends_tok hb).2, fun r k hb => ?_⟩, fun r b hb => (h1 r b hb).2⟩
 obtain ⟨h2, h3⟩ := lends_tok hb
 have := h.2 r h2
 simp only [h3, Bool.and_eq_true] at this
 exact ⟨this.1, fun e => by rw [e] at this; cases this.2⟩
theorem goCallL (bs ks : List Nat) (n : Nat) {all : List Oper} {f : FuncId} {o : Oper} {rest : List Oper} {i base : Nat} {s : List Itm} {Q : Exit → St → Prop} {c : Call} {p : Operand} {cs asL : List AV} {post : Out → Prop} (hc : ConL P f asL (σ.lends bs ks) post) (ho : o.op = .call c) (hp : c.callee = .value p) (hf : σ.eval p = .fn f cs) (ha : closeXL (c.args.toList.map σ.eval ++ cs) = some asL) (hL : lentChk σ bs ks = true) (hd : dstOk A.N o = true)
  (hr : ∀ res L', post (.ret res L') → go P A n (.ops all rest (i + 1) base) s ((σ.callL (σ.lends bs ks) L').put o.dst res) Q) (hpn : ∀ pv, post (.pan pv) → Q (.panic [{ v := pv, recovered := false }]) ⟨[], [], []⟩) : SemM P A (.exe (some f) all o rest i base) s σ Q :=
 satE_callL ho hp hf ha hc (lentChk_spec hL).1 hd (fun res L' h => go_ok n _ _ _ _ (hr res L' h)) fun pv h => by
  have key : ∀ s : List Itm, stk P A s Q (.panic [{ v := pv, recovered := false }]) ⟨[], [], []⟩ = Q (.panic [{ v := pv, recovered := false }]) ⟨[], [], []⟩ := fun s => by
   induction s with
   | nil => rfl
   | cons x s ih => cases x <;> exact ih
  rw [key]; exact hpn pv h
def retL (P : Program) (rs : List ResultVar) (bs ks : List Nat) (post : Out → Prop) : Exit → St → Prop
 | .normal, σ | .ret, σ => ∃ res, finRes P σ rs = some res ∧ res.closed = true ∧ lentChk σ bs ks = true ∧ post (.ret res (σ.lends bs ks))
 | .panic ch, _ => ∃ pv, ch = [{ v := pv, recovered := false }] ∧ post (.pan pv)
 | _, _ => False
def St.enterL (args : List AV) (L : Lent) : St := ⟨args.zipIdx.map fun x => (x.2, x.1), L.blks, L.toks⟩
structure LRel (P : Program) (F : Nat → Nat → Prop) (w : World) (m : Nat → Nat) (tv : Nat → Value) (L : Lent) (F' : Nat → Nat → Prop) (w' : World) (m' : Nat → Nat) (tv' : Nat → Value) (L' : Lent) : Prop where
 below : BelowX w.heap.size (L.at m tv) w w'
 ok : LentOk P F' m' tv' w' L'
 fix : ∀ r, fixN r = true → m' r = m r
 ver : ∀ r k', L'.tok r k' → ∃ k, L.tok r k ∧ k.len ≤ k'.len ∧ (k.len = k'.len → tv' r = tv r)
 at_ : ∀ x, L'.at m' tv' x → L.at m tv x ∨ w.heap.size ≤ x
 sub : ∀ b o, F b o → F' b o
 new : ∀ b o, F' b o → F b o ∨ (w.heap.size ≤ b ∧ b < w'.heap.size)
section
variable {F : Nat → Nat → Prop} {m : Nat → Nat} {tv : Nat → Value} {L : Lent}
theorem LRel.refl (h : LentOk P F m tv w L) : LRel P F w m tv L F w m tv L := ⟨⟨rfl, rfl, rfl, Nat.le_refl _, fun _ _ _ => rfl⟩, h, fun _ _ => rfl, fun _r k' hr => ⟨k', hr, Nat.le_refl _, fun _ => rfl⟩, fun _x hx => .inl hx, fun _ _ h => h, fun _ _ h => .inl h⟩
theorem LRel.trans {F1 F2 : Nat → Nat → Prop} {w1 w2 : World} {m1 m2 : Nat → Nat} {tv1 tv2 : Nat → Value} {L1 L2 : Lent} (h : LRel P F w m tv L F1 w1 m1 tv1 L1) (h' : LRel P F1 w1 m1 tv1 L1 F2 w2 m2 tv2 L2) : LRel P F w m tv L F2 w2 m2 tv2 L2 := by
 have hs := h.below.size
 have hs' := h'.below.size
 refine ⟨⟨h'.below.os.trans h.below.os, h'.below.tape.trans h.below.tape, h'.below.output.trans h.below.output, Nat.le_trans hs hs', fun k hk hx => (h'.below.block k (by omega) fun hx' => ?_).trans (h.below.block k hk hx)⟩, h'.ok, fun r hr => (h'.fix r hr).trans (h.fix r hr), fun r k' hr => ?_, fun x hx => ?_, fun b o hf => h'.sub b o (h.sub b o hf), fun b o hf => ?_⟩
 ·rcases h.at_ k hx' with h1 | h1
  ·exact hx h1
  ·omega
 ·obtain ⟨k1, h1, h2, h3⟩ := h'.ver r k' hr
  obtain ⟨k, h4, h5, h6⟩ := h.ver r k1 h1
  exact ⟨k, h4, by omega, fun h7 => (h3 (by omega)).trans (h6 (by omega))⟩
 ·rcases h'.at_ x hx with h1 | h1
  ·exact h.at_ x h1
  ·right; omega
 ·rcases h'.new b o hf with h1 | h1
  ·rcases h.new b o h1 with h2 | h2
   ·exact .inl h2
   ·right; omega
  ·right; omega
theorem lent_lo (hLok : LentOk P F m tv w L) {x : Nat} (hx : L.at m tv x) : P.globals.size ≤ x := by
 rcases hx with ⟨r, b, h1, rfl⟩ | ⟨r, k, h1, h2⟩
 ·exact hLok.lo r b h1
 ·exact hLok.tlo r k x h1 h2
def lentBase (P : Program) (F : Nat → Nat → Prop) (w : World) (m : Nat → Nat) (tv : Nat → Value) (L : Lent) (N : Nat) (ro : Option Nat) (hG : Glob P w) (hLok : LentOk P F m tv w L) : Base P :=
 ⟨w.heap.size, w, F, N, L.at m tv, fun _ hb => hG.keep hb fun _ hx => lent_lo hLok hx, hG.low, fun _ hx => lent_lo hLok hx, fixN, m, fun _ h => h, ro, L.tk, tv, (fun r n h => by
   obtain ⟨k, h1, _⟩ := Lent.tk_some h
   exact stkN_lent (hLok.tnm r k h1).1), []⟩
theorem lent_start {N : Nat} {ro : Option Nat} {env : List (Nat × AV)} {ts : Array Value} (hF : ∀ b o, F b o → b < w.heap.size) (hG : Glob P w) (hLok : LentOk P F m tv w L) (hsz : ts.size = N) (henv : ∀ t, Has ⟨m, tv, F⟩ L.tk w ((⟨env, [], []⟩ : St).get t) (ts.getD t undef)) :
  Ok (lentBase P F w m tv L N ro hG hLok) ⟨env, L.blks, L.toks⟩ ⟨m, tv, F⟩ { tmps := ts, defers := [] } w := by
 have hb1 : ∀ r b, (⟨env, L.blks, L.toks⟩ : St).blk r = some b → L.blk r b := fun r b hr => by
  unfold St.blk at hr
  unfold Lent.blk
  cases hl : look L.blks r with
  | none => simp [hl] at hr
  | some v => simp [hl] at hr; rw [hr]
 have hb2 : ∀ r b, (⟨env, L.blks, L.toks⟩ : St).tok r = some b → L.tok r b := fun r b hr => by
  unfold St.tok at hr
  unfold Lent.tok
  cases hl : look L.toks r with
  | none => simp [hl] at hr
  | some v => simp [hl] at hr; rw [hr]
 refine ⟨⟨rfl, rfl, rfl, Nat.le_refl _, fun _ _ _ => rfl⟩, Nat.le_refl _, fun _ _ h => h, fun _ _ h => .inl h, hF, rfl, hsz, henv, fun r b hr => ?_, fun r b hr => hLok.nF r b (hb1 r b hr), fun r b r' b' hr hr' => hLok.inj r b r' b' (hb1 r b hr) (hb1 r' b' hr'), fun r b hr => ?_, fun r b x hr hx o hf => absurd hf (hLok.tF r b x (hb2 r b hr) hx o), fun r b r' b' x hr hr' => hLok.tokblk r b r' b' x (hb2 r b hr) (hb1 r' b' hr'), fun r b r' b' x hr hr' => hLok.toktok r b r' b' x (hb2 r b hr) (hb2 r' b' hr'), fun r hr => rfl, fun r n0 h0 n hn => by
  have hn' : L.tk r = some n := hn
  have h0' : L.tk r = some n0 := h0
  rw [h0'] at hn'
  cases hn'
  exact ⟨Nat.le_refl _, fun _ => rfl⟩⟩
 ·have h1 := hb1 r b hr
  exact ⟨.inr ⟨.inl ⟨r, b, h1, rfl⟩, by unfold lentB; rw [fixN_lent (hLok.nm r b h1), Bool.or_true]⟩, hLok.at_ r b h1⟩
 ·have h1 := hb2 r b hr
  obtain ⟨xs, h2, h3⟩ := hLok.tat r b h1
  exact ⟨xs, h2, fun x hx => .inr ⟨.inr ⟨r, b, h1, hx⟩, (hLok.tnm r b h1).2⟩, h3⟩
theorem lent_end {N : Nat} {ro : Option Nat} {hG : Glob P w} {hLok : LentOk P F m tv w L} {σ' : St} {g' : Gh} {a' : Act} {w' : World} (bs ks : List Nat) (h2 : Ok (lentBase P F w m tv L N ro hG hLok) σ' g' a' w') (hch : lentChk σ' bs ks = true) (hks : ks.all (fun r => match look L.toks r with | some (some _) => true | _ => false) = true) :
  LRel P F w m tv L (freshBut F w w' g'.m g'.tv (σ'.lends bs ks)) w' g'.m g'.tv (σ'.lends bs ks) := by
 obtain ⟨hLd, hlo⟩ := lentChk_spec hch
 have hnat : ∀ b o, g'.F b o → freshBut F w w' g'.m g'.tv (σ'.lends bs ks) b o := fun b o hf => by
  rcases h2.Fn b o hf with h | h
  ·exact .inl h
  ·exact .inr ⟨h, h2.Fb b o hf, h2.at_F hLd hf⟩
 have e : Ext (fun _ => False) g' σ'.tk w' ⟨g'.m, g'.tv, freshBut F w w' g'.m g'.tv (σ'.lends bs ks)⟩ (σ'.lends bs ks).tk w' := ⟨hnat, fun _ _ _ _ h => h, fun _ _ => rfl, fun r _ n' hn' => by
  obtain ⟨k, h1, h2⟩ := Lent.tk_some hn'
  refine ⟨n', ?_, Nat.le_refl _, fun _ => rfl⟩
  unfold St.tk
  rw [hLd.tok r k h1, ← h2]; rfl, fun _ _ _ _ h => h⟩
 have hat : ∀ x, (σ'.lends bs ks).at g'.m g'.tv x → L.at m tv x ∨ w.heap.size ≤ x := fun x hx => (h2.at_lo hLd hx).symm
 have hlow : ∀ x, (σ'.lends bs ks).at g'.m g'.tv x → P.globals.size ≤ x := fun x hx => (hat x hx).elim (lent_lo hLok) fun h => Nat.le_trans hG.low h
 have hnF : ∀ x o, (σ'.lends bs ks).at g'.m g'.tv x → ¬ freshBut F w w' g'.m g'.tv (σ'.lends bs ks) x o := fun x o hx hf => by
  rcases hf with h | h
  ·exact h2.at_F hLd (h2.F0 x o h) hx
  ·exact h.2.2 hx
 refine ⟨h2.below, ⟨hLd.bnm, hLd.tnm, fun r b hr => hlow _ (.inl ⟨r, b, hr, rfl⟩), fun r k x hr hx => hlow _ (.inr ⟨r, k, hr, hx⟩), fun r b hr => ?_, fun r k hr => ?_, fun r b hr o => hnF _ o (.inl ⟨r, b, hr, rfl⟩), fun r k x hr hx o => hnF x o (.inr ⟨r, k, hr, hx⟩),
  fun r b r' b' hr hr' => h2.inj r b r' b' (hLd.blk r b hr) (hLd.blk r' b' hr'), fun r k r' b x hr hr' => h2.tokblk r k r' b x (hLd.tok r k hr) (hLd.blk r' b hr'), fun r k r' k' x hr hr' => h2.toktok r k r' k' x (hLd.tok r k hr) (hLd.tok r' k' hr')⟩, fun r hr => h2.fix r hr, fun r k' hr => ?_, hat, fun _ _ h => .inl h, fun b o hf => hf.imp id fun h => ⟨h.1, h.2.1⟩⟩
 ·exact (h2.blk r b (hLd.blk r b hr)).2.mono e (fun _ _ => id) rfl
 ·obtain ⟨xs, h5, _, h6⟩ := (h2.tok r k (hLd.tok r k hr)).mono e fun _ _ => rfl
  exact ⟨xs, h5, h6⟩
 ·have h5 := List.all_eq_true.1 hks r (look_keepL_mem _ _ _ _ hr).1
  split at h5
  ·rename_i k hk5
   have h6 := h2.hist r k.len (by show L.tk r = some k.len; unfold Lent.tk; rw [hk5]; rfl) k'.len (by unfold St.tk; rw [hLd.tok r k' hr]; rfl)
   exact ⟨k, hk5, h6.1, fun h7 => h6.2 h7.symm⟩
  ·cases h5
end
theorem conL_of (bs ks : List Nat) {f : FuncId} {fn : Func} {c : Code} {args : List AV} {L : Lent} {post : Out → Prop} (hf : P.funcs[f]? = some fn) (hb : fn.body = some c) (hn : (fn.name == "runtime.NumGoroutine") = false) (hle : args.length ≤ fn.ntmps)
  (h : ∀ A : Base P, A.N = fn.ntmps ∧ A.ro = none → SatC P A c (St.enterL args L) (stk P A [] (retL P fn.results.toList bs ks post))) (hks : ks.all (fun r => match look L.toks r with | some (some _) => true | _ => false) = true := by rfl) : ConL P f args L post := by
 refine ⟨⟨fn, hf, hn, by rw [hb]; rfl⟩, fun F w vs m tv hF hG hLok hl hv => ?_⟩
 refine calls_of_wp hf hb ?_
 have hsz : vs.toArray.size = args.length := by simp [hl]
 have hk := lent_start (N := fn.ntmps) (ro := none) (env := args.zipIdx.map fun x => (x.2, x.1)) (ts := vs.toArray ++ Array.replicate (fn.ntmps - vs.toArray.size) undef) hF hG hLok (by simp; omega) fun t => by
  have hget : (⟨args.zipIdx.map fun x => (x.2, x.1), [], []⟩ : St).get t = (args[t]?).getD .dead := by
   unfold St.get
   rw [look_zipIdx]; simp
  rw [hget]
  by_cases ht : t < args.length
  ·have htv : t < vs.length := by omega
   have e1 : (vs.toArray ++ Array.replicate (fn.ntmps - vs.toArray.size) undef).getD t undef = vs[t] := by
    rw [Array.getD_eq_getD_getElem?, Array.getElem?_append_left (by simpa using htv)]
    simp [htv]
   rw [e1]
   simp only [List.getElem?_eq_getElem ht, Option.getD_some]
   exact hv t ht htv
  ·simp only [List.getElem?_eq_none (Nat.le_of_not_lt ht), Option.getD_none]
   exact .dead _
 refine wp_mono (wpIn_wide.1 (h _ ⟨rfl, rfl⟩ ⟨m, tv, F⟩ _ w hk)) fun e a' w' hq => ?_
 obtain ⟨σ', g', h1, h2⟩ := hq
 have hret : (∃ res, finRes P σ' fn.results.toList = some res ∧ res.closed = true ∧ lentChk σ' bs ks = true ∧ post (.ret res (σ'.lends bs ks))) → a'.defers = [] ∧ ∃ v, (results fn a'.tmps).run P w' = .ok v w' ∧ (BelowX w.heap.size (L.at m tv) w w' ∧
   ((∃ u res L' m' tv', Ending.returned v = .returned u ∧ post (.ret res L') ∧ res.closed = true ∧ (∀ r b, L'.blk r b → b.lentOk = true) ∧ (∀ r v, look L'.blks r = some v → fixN r = true) ∧ (∀ r v, look L'.toks r = some v → stkN r = true) ∧ HasC w' (freshBut F w w' m' tv' L') res u ∧ LentOk P (freshBut F w w' m' tv' L') m' tv' w' L' ∧
     (∀ r, fixN r = true → m' r = m r) ∧ (∀ r k', L'.tok r k' → ∃ k, L.tok r k ∧ k.len ≤ k'.len ∧ (k.len = k'.len → tv' r = tv r)) ∧ ∀ x, L'.at m' tv' x → L.at m tv x ∨ w.heap.size ≤ x) ∨
    ∃ pv, Ending.returned v = .panicked [{ v := pv, recovered := false }] ∧ post (.pan pv))) := fun ⟨res, hr, hcl, hch, hpost⟩ => by
  obtain ⟨v, h3, h4⟩ := h2.results hr
  obtain ⟨hLd, hlo⟩ := lentChk_spec hch
  have hrel := lent_end bs ks h2 hch hks
  unfold lentChk at hch
  rw [Bool.and_eq_true, List.all_eq_true, List.all_eq_true] at hch
  refine ⟨h2.defers, v, h3, h2.below, .inl ⟨v, res, σ'.lends bs ks, g'.m, g'.tv, rfl, hpost, hcl, hlo, fun r v hr => ?_, fun r v hr => ?_, h4.mono fun b o hf => ?_, hrel.ok, hrel.fix, hrel.ver, hrel.at_⟩⟩
  ·have := hch.1 r (look_keepL_mem _ _ _ _ hr).1
   rw [Bool.and_eq_true] at this
   exact this.1
  ·have := hch.2 r (look_keepL_mem _ _ _ _ hr).1
   rw [Bool.and_eq_true] at this
   exact this.1
  ·rcases hf with h | ⟨h5, h6, h7, h8⟩
   ·exact .inl h
   ·refine .inr ⟨h5, h6, ?_⟩
    rintro (⟨r, bl, h9, e9⟩ | ⟨r, k, h9, e9⟩)
    ·exact h7 r bl (hLd.blk r bl h9) (fixN_lent (hLd.bnm r bl h9)) e9
    ·exact h8 r k (hLd.tok r k h9) (hLd.tnm r k h9).2 e9
 cases e with
 | normal => exact hret h1
 | ret => exact hret h1
 | panic ch =>
  obtain ⟨pv, rfl, hp⟩ := h1
  exact ⟨h2.defers, h2.below, .inr ⟨pv, rfl, hp⟩⟩
 | exit | goto | outgrown => exact h1.elim
theorem goAs (me : Nat) (n : Nat) {all : List Oper} {o : Oper} {rest : List Oper} {i base : Nat} {s : List Itm} {Q : Exit → St → Prop} {x : AV} {e : Eff} {need : Prop} (hg : gdOf A.N all σ o = some true) (h : outOp P σ me o.op = some (x, e, need)) (hn : need) (hA : A.fx me = false ∧ A.tk0 me = none) (hm : (mentEnv me σ.env || mentBlks me σ.blks) = false) (hd : dstOk A.N o = true)
  (hr : go P A n (.ops all rest (i + 1) base) s ((σ.app e).put o.dst x) Q) : SemM P A (.ops all (o :: rest) i base) s σ Q :=
 satO_cons hg (fun _ => satE_op (outOp_ok h hn fun _ => St.free_as hA.1 hA.2 hm) hd (go_ok n _ _ _ _ hr)) (fun h => by cases h) fun h => by cases h
theorem Ok.nilStk (h : Ok A σ g a w) {q st n : Nat} {e : TypeId} (hq : (∃ k, σ.tok q = some k ∧ k.ex ≠ Option.none ∧ k.len < n) ∨ (σ.tok q = Option.none ∧ (mentEnv q σ.env || mentBlks q σ.blks) = false ∧ A.fx q = false ∧ A.tk0 q = Option.none)) : ∃ g', Ok A (σ.setTok q (some ⟨st, e, n, some []⟩)) g' a w ∧
  Has g' (σ.setTok q (some ⟨st, e, n, some []⟩)).tk w (.stk q st n 0 0) (.slice Option.none 0 0) ∧ g'.m = g.m := by
 have hh : ∀ g' : Gh, g'.tv q = .slice Option.none 0 0 → Has g' (σ.setTok q (some ⟨st, e, n, some []⟩)).tk w (.stk q st n 0 0) (.slice Option.none 0 0) := fun g' hg' => .stk q st n 0 0 _ 0 (Nat.le_refl _) (fun h => by omega) fun n' hn' => by
  simp only [St.tk, St.tok_setTok, if_pos, Option.map_some, Option.some.injEq] at hn'
  subst hn'
  refine ⟨Nat.le_refl _, fun _ => ?_⟩
  rw [hg']
  exact ⟨rfl, Nat.zero_le _⟩
 have hr0 : ∀ rows : List (List D), (some [] : Option (List (List D))) = some rows → (∀ i (h : i < rows.length), rows[i].length = st) ∧ ∀ i (h : i < rows.length) j (hj : j < rows[i].length), ∃ u, ([] : List Value)[i * st + j]? = some u ∧ Reads w g.F rows[i][j] u := fun rows hr => by
  cases hr; exact ⟨fun i h => by simp at h, fun i h => by simp at h⟩
 rcases hq with ⟨k, h1, h2, h3⟩ | ⟨h1, h2, h3⟩
 ·exact ⟨_, h.restack (k' := ⟨st, e, n, some []⟩) (v' := .slice Option.none 0 0) (xs := []) h1 h2 (by simp) (.inl h3) ⟨rfl, rfl, rfl, Nat.le_refl _, fun _ _ _ => rfl⟩ (World.ownsRow_nil _ _ _ _) hr0 (.inr (.inr rfl)), hh _ (updN_same _ _ _), rfl⟩
 ·exact ⟨_, h.addTok (k := ⟨st, e, n, some []⟩) (v := .slice Option.none 0 0) (St.free_as h3.1 h3.2 h2) ⟨[], World.ownsRow_nil _ _ _ _, (fun x hx => by cases hx), hr0⟩ (fun x hx => by cases hx) (fun _ _ x _ hx => by cases hx) (fun _ _ x _ hx => by cases hx), hh _ (updN_same _ _ _), rfl⟩
theorem satC_stkCell (q r j st n : Nat) (e : TypeId) {ty : TypeId} {cs : List AV} {c : Code} {K : Exit → St → Prop} (hf : A.fx q = false ∧ A.tk0 q = Option.none) (hk : (match σ.tok q with | some k => k.ex.isSome && decide (k.len < n) | Option.none => !(mentEnv q σ.env || mentBlks q σ.blks)) = true) (hb : σ.blk r = some (.cell ty cs)) (hj : cs[j]? = some (.d (.raw (.slice Option.none 0 0))))
  (h : SatC P A c ((σ.setTok q (some ⟨st, e, n, some []⟩)).setBlk r (some (.cell ty (cs.set j (.stk q st n 0 0))))) K) : SatC P A c σ K := by
 refine satC_ok (fun g a w hok => ?_) h
 obtain ⟨g', h1, h2, _⟩ := hok.nilStk (q := q) (st := st) (n := n) (e := e) (by
  cases hk1 : σ.tok q with
  | none =>
   rw [hk1] at hk
   exact .inr ⟨rfl, by simpa using hk, hf⟩
  | some k =>
   rw [hk1] at hk
   simp only [Bool.and_eq_true, decide_eq_true_eq] at hk
   exact .inl ⟨k, rfl, (fun e => by rw [e] at hk; cases hk.1), hk.2⟩)
 obtain ⟨hB, arr, c1, c2, c3⟩ := h1.blk r _ hb
 obtain ⟨hjl, hje⟩ := List.getElem?_eq_some_iff.1 hj
 refine ⟨_, (h1.write (k' := .cell ty (cs.set j (.stk q st n 0 0))) (w' := w) hb (fun _ _ => rfl) rfl (.of (Below.refl _ _)) ⟨arr, c1, by simpa using c2, fun i hi hi' => ?_⟩).1⟩
 have hi2 : i < cs.length := by simpa using hi
 rw [List.getElem_set]
 split
 ·rename_i e1; subst e1
  have h3 := c3 j hjl hi'
  rw [hje] at h3
  rw [h3.raw_eq]; exact h2
 ·exact c3 i hi2 hi'
theorem goPanic {all : List Oper} {f : Option FuncId} {o : Oper} {rest : List Oper} {i base : Nat} {s : List Itm} {Q : Exit → St → Prop} {p : Operand} {v v0 : Value} {t : TypeId} (ho : o.op = .panic p) (hp : σ.eval p = .d (.raw (.iface t v0))) (hv : v = .iface t v0) (hQ : Q (.panic [{ v := v, recovered := false }]) σ) : SemM P A (.exe f all o rest i base) s σ Q := by
 intro g a w hk
 have he := hk.eval p
 rw [hp] at he
 have hr : (execOp a.eval o).run P w = .halt (.panic v) w := by
  subst hv
  simp only [execOp, ho, he.raw_eq, Instr.panic, Sem.run_bind]
  rfl
 refine wpE_of hr (fun _ _ h => by cases h) ?_
 refine ⟨σ, g, ?_, hk⟩
 have key : ∀ s : List Itm, stk P A s Q (.panic [{ v := v, recovered := false }]) σ = Q (.panic [{ v := v, recovered := false }]) σ := fun s => by
  induction s with
  | nil => rfl
  | cons x s ih => cases x <;> exact ih
 rw [key]; exact hQ
end
end
section
open Go Go.RowKit
end
end Go.Proofs.YtnnolijagpakiaaGreatDoor
