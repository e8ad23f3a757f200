/- Texts of this proof, part 18: what the proof uses of them. -/
import Derived.Test.YtnnolijagpakiaaGreatDoorVag
import Derived.Test.YtnnolijagpakiaaGreatDoorVan
namespace Go.Proofs.YtnnolijagpakiaaGreatDoor
section
open Go Go.RowKit
inductive RunsG (P : Program) (N : Nat) (all : List Oper) (base : Nat) (G : List (Nat × AV)) (W : List Nat) : List Oper → Nat → St → List RI → St → Prop
 | nil (i : Nat) (σ : St) : RunsG P N all base G W [] i σ [] σ
 | later {o : Oper} {rest : List Oper} {i : Nat} {σ σ' : St} {rs : List RI} (hW : W.contains i = true) (h : RunsG P N all base G W rest (i + 1) (σ.put o.dst .dead) rs σ') : RunsG P N all base G W (o :: rest) i σ (⟨.dead, .none, []⟩ :: rs) σ'
 | given {o : Oper} {rest : List Oper} {i : Nat} {σ σ' : St} {rs : List RI} {x : AV} (hW : W.contains i = false) (hG : look G i = some x) (hd : dstOk N o = true) (h : RunsG P N all base G W rest (i + 1) (σ.put o.dst x) rs σ') :
   RunsG P N all base G W (o :: rest) i σ (⟨x, .none, (relOps o.op).map σ.eval⟩ :: rs) σ'
 | skip {o : Oper} {rest : List Oper} {i : Nat} {σ σ' : St} {rs : List RI} (hW : W.contains i = false) (hg : gdOf N all σ o = some false) (hd : dstOk N o = true) (h : RunsG P N all base G W rest (i + 1) (σ.put o.dst (.d (.raw undef))) rs σ') :
   RunsG P N all base G W (o :: rest) i σ (⟨.d (.raw undef), .none, (relOps o.op).map σ.eval⟩ :: rs) σ'
 | op {o : Oper} {rest : List Oper} {i : Nat} {σ σ' : St} {rs : List RI} {x : AV} {e : Eff} (hW : W.contains i = false) (hg : gdOf N all σ o = some true) (hr : Rob P σ (base + i) o x e) (hd : dstOk N o = true) (h : RunsG P N all base G W rest (i + 1) ((σ.app e).put o.dst x) rs σ') :
   RunsG P N all base G W (o :: rest) i σ (⟨x, e, (relOps o.op).map σ.eval⟩ :: rs) σ'
def runG (P : Program) (N : Nat) (all : List Oper) (base : Nat) (G : List (Nat × AV)) (W : List Nat) : List Oper → Nat → St → List RI → (List RI → St → Prop) → Prop
 | [], _, σ, acc, k => k acc σ
 | o :: rest, i, σ, acc, k =>
  match W.contains i with
  | true => runG P N all base G W rest (i + 1) (σ.put o.dst .dead) (acc ++ [⟨.dead, .none, []⟩]) k
  | false => match look G i with
   | some x => dstOk N o = true ∧ runG P N all base G W rest (i + 1) (σ.put o.dst x) (acc ++ [⟨x, .none, (relOps o.op).map σ.eval⟩]) k
   | none => match gdOf N all σ o with
    | none => False
    | some false => dstOk N o = true ∧ runG P N all base G W rest (i + 1) (σ.put o.dst (.d (.raw undef))) (acc ++ [⟨.d (.raw undef), .none, (relOps o.op).map σ.eval⟩]) k
    | some true => match outOp P σ (base + i) o.op with
     | none => False
     | some (x, e, need) => need ∧ (makes o.op = true → σ.ment (base + i) = false) ∧ dstOk N o = true ∧ runG P N all base G W rest (i + 1) ((σ.app e).put o.dst x) (acc ++ [⟨x, e, (relOps o.op).map σ.eval⟩]) k
theorem runG_spec {P : Program} {N : Nat} {all : List Oper} {base : Nat} {G : List (Nat × AV)} {W : List Nat} : ∀ (rest : List Oper) (i : Nat) (σ : St) (acc : List RI) (k : List RI → St → Prop), runG P N all base G W rest i σ acc k → ∃ rs σ', RunsG P N all base G W rest i σ rs σ' ∧ k (acc ++ rs) σ'
 | [], i, σ, acc, k, h => ⟨[], σ, .nil i σ, by rw [List.append_nil]; exact h⟩
 | o :: rest, i, σ, acc, k, h => by
  have ap : ∀ (r : RI) (rs : List RI), acc ++ [r] ++ rs = acc ++ r :: rs := fun r rs => by simp
  rw [runG] at h
  cases hW : W.contains i with
  | true =>
   rw [hW] at h
   obtain ⟨rs, σ', h1, h2⟩ := runG_spec rest _ _ _ _ h
   exact ⟨_, σ', .later hW h1, by rw [← ap]; exact h2⟩
  | false =>
   rw [hW] at h
   simp only at h
   split at h
   ·rename_i x hG
    obtain ⟨rs, σ', h1, h2⟩ := runG_spec rest _ _ _ _ h.2
    exact ⟨_, σ', .given hW hG h.1 h1, by rw [← ap]; exact h2⟩
   ·split at h
    ·exact h.elim
    ·rename_i hg
     obtain ⟨rs, σ', h1, h2⟩ := runG_spec rest _ _ _ _ h.2
     exact ⟨_, σ', .skip hW hg h.1 h1, by rw [← ap]; exact h2⟩
    ·rename_i hg
     split at h
     ·exact h.elim
     ·rename_i x e need ho
      obtain ⟨h3, h4, h5, h6⟩ := h
      obtain ⟨rs, σ', h1, h2⟩ := runG_spec rest _ _ _ _ h6
      exact ⟨_, σ', .op hW hg (.inl ⟨need, ho, h3, h4⟩) h5 h1, by rw [← ap]; exact h2⟩
def laterL (all : List Oper) (c : Nat) : List Nat := (List.range all.length).filter fun i => i == c || isAnc (ancs all) c i
def Agree : List (Option (AV × Eff)) → List RI → Prop
 | [], _ => True
 | none :: l, _ :: rs => Agree l rs
 | some (x, e) :: l, r :: rs => x = r.x ∧ e = r.e ∧ Agree l rs
 | _ :: _, [] => False
theorem Agree.get : ∀ {l : List (Option (AV × Eff))} {rs : List RI}, Agree l rs → ∀ {i : Nat} {x : AV} {e : Eff}, l.getD i none = some (x, e) → ∃ vs, rs[i]? = some ⟨x, e, vs⟩
 | [], _, _, i, x, e, h => by simp at h
 | none :: l, r :: rs, hA, i, x, e, h => by
  cases i with
  | zero => simp at h
  | succ i => simpa using Agree.get (l := l) (rs := rs) hA (by simpa using h)
 | some (y, f) :: l, r :: rs, hA, i, x, e, h => by
  cases i with
  | zero =>
   simp only [List.getD_cons_zero, Option.some.injEq, Prod.mk.injEq] at h
   obtain ⟨rfl, rfl⟩ := h
   obtain ⟨h1, h2, _⟩ := hA
   refine ⟨r.vs, ?_⟩
   simp only [List.getElem?_cons_zero]; rw [h1, h2]
  | succ i => simpa using Agree.get (l := l) (rs := rs) hA.2.2 (by simpa using h)
 | none :: l, [], hA, i, x, e, h => hA.elim
 | some _ :: l, [], hA, i, x, e, h => hA.elim
def nextF (c : Nat) (x : AV) (W : List Nat) : List RI → Nat → List (Option (AV × Eff))
 | [], _ => []
 | r :: rs, i => (if i = c then some (x, .none) else if W.contains i = true then none else some (r.x, r.e)) :: nextF c x W rs (i + 1)
theorem nextF_get (c : Nat) (x : AV) (W : List Nat) : ∀ (rs : List RI) (i k : Nat), (nextF c x W rs i).getD k none = match rs[k]? with
  | some r => if i + k = c then some (x, .none) else if W.contains (i + k) = true then none else some (r.x, r.e)
  | none => none
 | [], i, k => by simp [nextF]
 | r :: rs, i, 0 => by simp [nextF]
 | r :: rs, i, k + 1 => by
  rw [nextF, List.getD_cons_succ, nextF_get c x W rs (i + 1) k]
  simp only [List.getElem?_cons_succ]
  rw [show i + 1 + k = i + (k + 1) by omega]
def Eff.ownB : Eff → Bool
 | .none => true
 | .blk r _ => !lentN r
 | .tok r _ => !lentN r
variable {P : Program} {A : Base P}
def FactG (P : Program) (N : Nat) (all : List Oper) (base : Nat) (G : List (Nat × AV)) (W : List Nat) (rs : List RI) (σ0 : St) (i : Nat) (o : Oper) (r : RI) : Prop :=
 W.contains i = true ∨ (W.contains i = false ∧ look G i = some r.x ∧ r.e = .none) ∨ (W.contains i = false ∧ Fact P N all base rs σ0 i o r)
theorem runsG_facts {N : Nat} {all : List Oper} {base : Nat} {G : List (Nat × AV)} {W : List Nat} {rsAll : List RI} {σ0 : St} {rest : List Oper} {i : Nat} {σ σ' : St} {rs : List RI} (h : RunsG P N all base G W rest i σ rs σ') :
  all.drop i = rest → rsAll.drop i = rs → Rep all rsAll σ0 (fun _ => true) i σ → (∀ q, σ.ment q = false → σ0.ment q = false) →
  (∀ k o r, i ≤ k → all[k]? = some o → rsAll[k]? = some r → FactG P N all base G W rsAll σ0 k o r) ∧ Rep all rsAll σ0 (fun _ => true) (i + rest.length) σ' ∧ rs.length = rest.length := by
 have hd : ∀ {α : Type} {l : List α} {i : Nat} {x : α} {xs : List α}, l.drop i = x :: xs → l[i]? = some x ∧ l.drop (i + 1) = xs := fun {α l i x xs} h => by
  have h1 : (l.drop i)[0]? = some x := by rw [h]; rfl
  rw [List.getElem?_drop] at h1
  refine ⟨h1, ?_⟩
  rw [← List.drop_drop, h]; rfl
 induction h with
 | nil i σ =>
  intro h1 h2 h3 _
  refine ⟨fun k o r hk ho _ => ?_, h3, rfl⟩
  have := List.drop_eq_nil_iff.1 h1
  have := (List.getElem?_eq_some_iff.1 ho).1
  omega
 | @later o rest i σ σ' rs hW _ ih =>
  intro h1 h2 h3 h4
  obtain ⟨ho, h1'⟩ := hd h1
  obtain ⟨hr, h2'⟩ := hd h2
  obtain ⟨h5, h6, h7⟩ := ih h1' h2' (h3.step ho hr) (fun q hq => h4 q (St.ment_app_put (e := .none) hq))
  refine ⟨fun k o' r' hk ho' hr' => ?_, by rw [List.length_cons, show i + (rest.length + 1) = i + 1 + rest.length by omega]; exact h6, by simp [h7]⟩
  by_cases hik : k = i
  ·subst hik; exact .inl hW
  ·exact h5 k o' r' (by omega) ho' hr'
 | @given o rest i σ σ' rs x hW hG hdd _ ih =>
  intro h1 h2 h3 h4
  obtain ⟨ho, h1'⟩ := hd h1
  obtain ⟨hr, h2'⟩ := hd h2
  obtain ⟨h5, h6, h7⟩ := ih h1' h2' (h3.step ho hr) (fun q hq => h4 q (St.ment_app_put (e := .none) hq))
  refine ⟨fun k o' r' hk ho' hr' => ?_, by rw [List.length_cons, show i + (rest.length + 1) = i + 1 + rest.length by omega]; exact h6, by simp [h7]⟩
  by_cases hik : k = i
  ·subst hik
   rw [hr] at hr'; cases hr'
   exact .inr (.inl ⟨hW, hG, rfl⟩)
  ·exact h5 k o' r' (by omega) ho' hr'
 | @skip o rest i σ σ' rs hW hg hdd _ ih =>
  intro h1 h2 h3 h4
  obtain ⟨ho, h1'⟩ := hd h1
  obtain ⟨hr, h2'⟩ := hd h2
  obtain ⟨h5, h6, h7⟩ := ih h1' h2' (h3.step ho hr) (fun q hq => h4 q (St.ment_app_put (e := .none) hq))
  refine ⟨fun k o' r' hk ho' hr' => ?_, by rw [List.length_cons, show i + (rest.length + 1) = i + 1 + rest.length by omega]; exact h6, by simp [h7]⟩
  by_cases hik : k = i
  ·subst hik
   rw [ho] at ho'; cases ho'
   rw [hr] at hr'; cases hr'
   exact .inr (.inr ⟨hW, ⟨σ, h3, h4, rfl, hdd, .inl ⟨hg, rfl, rfl⟩⟩⟩)
  ·exact h5 k o' r' (by omega) ho' hr'
 | @op o rest i σ σ' rs x e hW hg hro hdd _ ih =>
  intro h1 h2 h3 h4
  obtain ⟨ho, h1'⟩ := hd h1
  obtain ⟨hr, h2'⟩ := hd h2
  obtain ⟨h5, h6, h7⟩ := ih h1' h2' (h3.step ho hr) (fun q hq => h4 q (St.ment_app_put hq))
  refine ⟨fun k o' r' hk ho' hr' => ?_, by rw [List.length_cons, show i + (rest.length + 1) = i + 1 + rest.length by omega]; exact h6, by simp [h7]⟩
  by_cases hik : k = i
  ·subst hik
   rw [ho] at ho'; cases ho'
   rw [hr] at hr'; cases hr'
   exact .inr (.inr ⟨hW, ⟨σ, h3, h4, rfl, hdd, .inr ⟨hg, hro⟩⟩⟩)
  ·exact h5 k o' r' (by omega) ho' hr'
theorem ConL.named {f : FuncId} {ys : List AV} {L : Lent} {post : Out → Prop} (h : ConL P f ys L post) : ConL P f ys L fun o => post o ∧ match o with
  | .ret _ L' => (∀ r v, look L'.blks r = some v → fixN r = true) ∧ ∀ r v, look L'.toks r = some v → stkN r = true
  | .pan _ => True := by
 refine ⟨h.1, fun F w vs m tv hF hG hLok hl hv => (h.2 F w vs m tv hF hG hLok hl hv).mono ?_⟩
 rintro e w' ⟨hb, h⟩
 refine ⟨hb, ?_⟩
 rcases h with ⟨v, res, L', m', tv', he, hp, hcl, hok, hn1, hn2, hr⟩ | ⟨pv, he, hp⟩
 ·exact .inl ⟨v, res, L', m', tv', he, ⟨hp, hn1, hn2⟩, hcl, hok, hn1, hn2, hr⟩
 ·exact .inr ⟨pv, he, hp, trivial⟩
structure CallAt (N : Nat) (all : List Oper) (c : Nat) (σ : St) (o : Oper) (cl : Call) (p : Operand) (f : FuncId) (cs : List AV) : Prop where
 ho : all[c]? = some o
 hop : o.op = .call cl
 hp : cl.callee = .value p
 hf : σ.eval p = .fn f cs
 hg : gdOf N all σ o = some true
 hd : dstOk N o = true
inductive DP (P : Program) (A : Base P) (all : List Oper) (base : Nat) (fin : St → Prop) (pan : Value → Prop) : List (Nat × AV) → List (Option (AV × Eff)) → St → Prop
 | fin {G : List (Nat × AV)} {F : List (Option (AV × Eff))} {σ0 σn : St} {rs : List RI} (hr : RunsG P A.N all base G [] all 0 σ0 rs σn) (hch : chk all base rs = true) (hag : Agree F rs) (h : fin σn) : DP P A all base fin pan G F σ0
 | call {G : List (Nat × AV)} {F : List (Option (AV × Eff))} {σ0 σn : St} {rs : List RI} (c : Nat) (W : List Nat) (bs ks : List Nat) {o : Oper} {cl : Call} {p : Operand} {f : FuncId} {cs ys : List AV} {post : Out → Prop} (hW : laterL all c = W) (hn : (F.getD c none).isNone = true) (hr : RunsG P A.N all base G W all 0 σ0 rs σn) (hch : chk all base rs = true) (hag : Agree F rs)
   (hno : rs.all (fun r => r.e.ownB) = true) (hL : lentChk σ0 bs ks = true) (hc : ConL P f ys (σ0.lends bs ks) post) (hat : CallAt A.N all c σn o cl p f cs) (hdst : W.all (fun j => match (all[j]?).bind Oper.dst with | some t => !(tmpsOf all o).contains t | none => true) = true) (ha : closeXL (cl.args.toList.map σn.eval ++ cs) = some ys)
   (hret : ∀ x L', post (.ret x L') → DP P A all base fin pan ((c, x) :: G) (nextF c x W rs 0) (σ0.callL (σ0.lends bs ks) L')) (hpan : ∀ pv, post (.pan pv) → pan pv) : DP P A all base fin pan G F σ0
 | con {G : List (Nat × AV)} {F : List (Option (AV × Eff))} {σ0 σn : St} {rs : List RI} (c : Nat) (W : List Nat) {o : Oper} {cl : Call} {p : Operand} {f : FuncId} {cs ys : List AV} {x : AV} (hW : laterL all c = W) (hn : (F.getD c none).isNone = true) (hr : RunsG P A.N all base G W all 0 σ0 rs σn) (hch : chk all base rs = true) (hag : Agree F rs)
   (hc : Con P f ys x) (hat : CallAt A.N all c σn o cl p f cs) (hdst : W.all (fun j => match (all[j]?).bind Oper.dst with | some t => !(tmpsOf all o).contains t | none => true) = true) (ha : closeL (cl.args.toList.map σn.eval ++ cs) = some ys)
   (hret : DP P A all base fin pan ((c, x) :: G) (nextF c x W rs 0) σ0) : DP P A all base fin pan G F σ0
theorem lst_done {V : Type} {wr : Nat → Option V} {X : Nat → Bool} {v0 : V} : ∀ n, (∀ m, m < n → (wr m).isSome = true → X m = true) → lst wr X v0 n = lst wr (fun _ => true) v0 n
 | 0, _ => rfl
 | n + 1, h => by
  have ih := lst_done (wr := wr) (X := X) (v0 := v0) n fun m hm => h m (by omega)
  rw [lst, lst, ih]
  cases hw : wr n with
  | none => simp
  | some v => rw [h n (by omega) (by rw [hw]; rfl)]
theorem lst_cong {V : Type} {wr wr' : Nat → Option V} {X : Nat → Bool} {v0 : V} : ∀ n, (∀ m, m < n → X m = true → wr m = wr' m) → lst wr X v0 n = lst wr' X v0 n
 | 0, _ => rfl
 | n + 1, h => by
  have ih := lst_cong (wr := wr) (wr' := wr') (X := X) (v0 := v0) n fun m hm => h m (by omega)
  rw [lst, lst, ih]
  cases hX : X n with
  | false => rfl
  | true => rw [h n (by omega) hX]
theorem lst_none {V : Type} {wr : Nat → Option V} {X : Nat → Bool} {v0 : V} : ∀ n, (∀ m, m < n → X m = true → wr m = none) → lst wr X v0 n = v0
 | 0, _ => rfl
 | n + 1, h => by
  have ih := lst_none (wr := wr) (X := X) (v0 := v0) n fun m hm => h m (by omega)
  rw [lst]
  cases hX : X n with
  | false => simpa using ih
  | true => rw [h n (by omega) hX]; simpa using ih
section
variable {all : List Oper} {base : Nat} {rs : List RI} {σ0 : St} {X : Nat → Bool} {σ : St} {i : Nat} {o : Oper} {r : RI}
theorem Rep.atCall {N : Nat} {c : Nat} {σn : St} (hR : Rep all rs σ0 X all.length σ) (hRn : Rep all rs σ0 (fun _ => true) all.length σn) (hlen : rs.length = all.length) (hch : chk all base rs = true) (hX : Closed all X) (hXc : X c = false) (hdeps : ∀ d ∈ depsOf o, X d = true) (ho : all[c]? = some o)
  (hdst : (laterL all c).all (fun j => match (all[j]?).bind Oper.dst with | some t => !(tmpsOf all o).contains t | none => true) = true) : (∀ t ∈ tmpsOf all o, σ.get t = σn.get t) ∧ gdOf N all σ o = gdOf N all σn o := by
 obtain ⟨hd, hp⟩ := chk_spec hch
 have hi : c < all.length := (List.getElem?_eq_some_iff.1 ho).1
 have hoi : all[c] = o := (List.getElem?_eq_some_iff.1 ho).2
 have hX2 : Closed all (fun j => if j = c then true else X j) := fun k hk hx d hdd => by
  by_cases hki : k = c
  ·subst hki
   rw [hoi] at hdd
   have := hdeps d hdd
   by_cases hdi : d = k
   ·simp [hdi]
   ·simp [hdi, this]
  ·simp only [hki, if_false] at hx
   have := hX k hk hx d hdd
   by_cases hdi : d = c
   ·simp [hdi]
   ·simp [hdi, this]
 have hA2 := ancOk hd hX2
 have hA := ancOk hd hX
 have hanc : ∀ j, isAnc (ancs all) j c = true → X j = true := fun j hj => by
  have h1 := hA2.down c hi (by simp) j hj
  have h2 := hA.lt j c hj
  rw [if_neg (by omega)] at h1
  exact h1
 have key : ∀ t ∈ tmpsOf all o, σ.get t = σn.get t := fun t ht => by
  rw [hR.get, hRn.get]
  refine lst_done _ fun m hm hw => ?_
  have hom : all[m]? = some all[m] := by simp [hm]
  have hrm : rs[m]? = some (rs[m]'(by omega)) := by simp [hlen, hm]
  have e2 : all[m].dst = some t := by
   unfold wT at hw; rw [hom, hrm] at hw; simp only at hw
   by_cases h : all[m].dst = some t
   ·exact h
   ·simp [h] at hw
  have hnot : ¬ m ∈ laterL all c := fun hmem => by
   have := List.all_eq_true.1 hdst m hmem
   rw [hom] at this
   simp only [Option.bind_some, e2] at this
   rw [List.contains_eq_mem] at this
   simp [ht] at this
  have hnl : ¬ (m = c ∨ isAnc (ancs all) c m = true) := fun h => hnot (by
   unfold laterL
   rw [List.mem_filter]
   refine ⟨by simpa using hm, ?_⟩
   rcases h with h | h
   ·simp [h]
   ·simp [h])
  have hrc : rs[c]? = some (rs[c]'(by omega)) := by simp [hlen, hi]
  have := hp m _ _ c o _ hom hrm ho hrc
  unfold pairOk at this
  have htt : touch all all[m] (rs[m]'(by omega)) o (rs[c]'(by omega)) = true := by simp [touch, e2, ht]
  rw [htt] at this
  simp only [Bool.not_true, Bool.false_or, Bool.or_eq_true, Bool.and_eq_true, beq_iff_eq] at this
  rcases this with h | h
  ·exact absurd (.inl h) hnl
  ·rcases h.1 with h | h
   ·exact hanc m h
   ·exact absurd (.inr h) hnl
 exact ⟨key, gdOf_agree key⟩
theorem laterL_spec {c j : Nat} (h : (laterL all c).contains j = true) : j < all.length ∧ (j = c ∨ isAnc (ancs all) c j = true) := by
 rw [List.contains_eq_mem] at h
 have h' : j ∈ laterL all c := by simpa using h
 unfold laterL at h'
 rw [List.mem_filter] at h'
 exact ⟨by simpa using h'.1, by simpa using h'.2⟩
end
set_option maxHeartbeats 1000000 in
theorem dp_ok {all : List Oper} {base : Nat} {fin : St → Prop} {pan : Value → Prop} {Q : Exit → Act → World → Prop} (hfin : ∀ σn g a w, fin σn → Ok A σn g a w → Q .normal a w) (hpn : ∀ pv g a w, pan pv → Ok A ⟨[], [], []⟩ g a w → Q (.panic [{ v := pv, recovered := false }]) a w) {G : List (Nat × AV)} {F : List (Option (AV × Eff))} {σ0 : St} (h : DP P A all base fin pan G F σ0) :
  ∀ (fuel : Nat) (listed : Array Bool) (σ : St) (g : Gh) (a : Act) (w : World), listed.size = all.length → (listed.toList.count false ≤ fuel) → Closed all (fun j => listed.getD j false) → (∀ j, listed.getD j false = true → (F.getD j none).isSome = true) → (∀ j x, look G j = some x → listed.getD j false = true) →
   (∀ rs, rs.length = all.length → chk all base rs = true → Agree F rs → Rep all rs σ0 (fun j => listed.getD j false) all.length σ) → Ok A σ g a w → wpAnyIn A.fe 0 P .any all.toArray Q fuel listed a w := by
 -- one phase: what is done when the operation is not one that waits
 have phase : ∀ (G : List (Nat × AV)) (W : List Nat) (σ0 σn : St) (rs : List RI) (hr : RunsG P A.N all base G W all 0 σ0 rs σn) (hch : chk all base rs = true) (hWW : ∀ j, W.contains j = true → j < all.length),
   (W = [] → ∀ g a w, Ok A σn g a w → Q .normal a w) →
   (∀ (fuel : Nat) (listed : Array Bool) (σ : St) (g : Gh) (a : Act) (w : World) (i : Nat) (o : Oper), listed.size = all.length → ((listed.setIfInBounds i true).toList.count false ≤ fuel) → Closed all (fun j => listed.getD j false) → Closed all (fun j => (listed.setIfInBounds i true).getD j false) → (∀ j, listed.getD j false = true → W.contains j = false) → (∀ j x, look G j = some x → listed.getD j false = true) →
    listed.getD i false = false → all[i]? = some o → (∀ d ∈ depsOf o, listed.getD d false = true) → W.contains i = true → Rep all rs σ0 (fun j => listed.getD j false) all.length σ → Ok A σ g a w → wpOpIn A.fe 0 P all.toArray Q i (wpAnyIn A.fe 0 P .any all.toArray Q fuel (listed.setIfInBounds i true)) a w) →
   (W ≠ [] → ∃ j, W.contains j = true ∧ ∀ i, W.contains i = true → j ≤ i ∧ (j = i ∨ isAnc (ancs all) j i = true)) →
   ∀ (fuel : Nat) (listed : Array Bool) (σ : St) (g : Gh) (a : Act) (w : World), listed.size = all.length → (listed.toList.count false ≤ fuel) → Closed all (fun j => listed.getD j false) → (∀ j, listed.getD j false = true → W.contains j = false) → (∀ j x, look G j = some x → listed.getD j false = true) →
    Rep all rs σ0 (fun j => listed.getD j false) all.length σ → Ok A σ g a w → wpAnyIn A.fe 0 P .any all.toArray Q fuel listed a w := by
  intro G W σ0 σn rs hr hch hWW hend hcall hleast
  have hR0 : Rep all rs σ0 (fun _ => true) 0 σ0 := ⟨fun _ => rfl, fun _ => rfl, fun _ => rfl⟩
  obtain ⟨hfacts, hRn, hlen⟩ := runsG_facts (rsAll := rs) (σ0 := σ0) hr rfl rfl hR0 (fun _ h => h)
  rw [Nat.zero_add] at hRn
  obtain ⟨hd, _⟩ := chk_spec hch
  have hallX : ∀ (listed : Array Bool), listed.size = all.length → Region.ready .any all.toArray listed = [] → ∀ j, j < all.length → listed.getD j false = true := by
   intro listed hsz hnil j
   induction j using Nat.strongRecOn with
   | _ j ih =>
    intro hj
    cases hc : listed.getD j false with
    | true => rfl
    | false =>
     exfalso
     have hmem : j ∈ Region.ready .any all.toArray listed := by
      rw [mem_ready]
      refine ⟨?_, all[j], by simp [hj], fun e he hb => ?_⟩
      ·simp only [Array.getD_eq_getD_getElem?] at hc ⊢
       rw [Array.getElem?_eq_getElem (by omega)] at hc ⊢
       simpa using hc
      ·have hde : e.on ∈ depsOf all[j] := by
        unfold depsOf
        exact List.mem_map.2 ⟨e, List.mem_filter.2 ⟨by simpa using he, hb⟩, rfl⟩
       have := hd j hj _ hde
       exact ih _ this (by omega)
     rw [hnil] at hmem
     cases hmem
  have hdone : ∀ (listed : Array Bool) (σ : St) (g : Gh) (a : Act) (w : World), listed.size = all.length → Region.ready .any all.toArray listed = [] → (∀ j, listed.getD j false = true → W.contains j = false) → Rep all rs σ0 (fun j => listed.getD j false) all.length σ → Ok A σ g a w → Q .normal a w := fun listed σ g a w hsz hnil hXW hR hk => by
   have hX := hallX listed hsz hnil
   have hWnil : W = [] := by
    cases W with
    | nil => rfl
    | cons c W' =>
     exfalso
     have hc : (c :: W').contains c = true := by simp
     have h1 := hXW c (hX c (hWW c hc))
     rw [hc] at h1; cases h1
   obtain ⟨e1, e2, e3⟩ := hR.all hX hRn
   exact hend hWnil g a w (hk.sub (fun t => .inr (by rw [e1])) (fun t => .inr (by rw [e2])) (fun t => .inr (by rw [e3])))
  intro fuel
  induction fuel with
  | zero =>
   intro listed σ g a w hsz hcount hX hXW hG hR hk
   have hnil : Region.ready .any all.toArray listed = [] := by
    cases hrd : Region.ready .any all.toArray listed with
    | nil => rfl
    | cons j js =>
     exfalso
     have hj : j ∈ Region.ready .any all.toArray listed := by rw [hrd]; simp
     rw [mem_ready] at hj
     obtain ⟨h1, o, ho, _⟩ := hj
     have hjl : j < listed.size := by rw [hsz]; simpa using (Array.getElem?_eq_some_iff.1 ho).1
     have h2 : listed[j] = false := by
      rw [Array.getD_eq_getD_getElem?, Array.getElem?_eq_getElem hjl] at h1
      simpa using h1
     have : 0 < listed.toList.count false := List.count_pos_iff.2 (by rw [← h2]; simp)
     omega
   exact ⟨hnil, hdone listed σ g a w hsz hnil hXW hR hk⟩
  | succ fuel ih =>
   intro listed σ g a w hsz hcount hX hXW hG hR hk
   refine ⟨fun hnil => hdone listed σ g a w hsz hnil hXW hR hk, fun i hi => ?_⟩
   rw [mem_ready] at hi
   obtain ⟨h1, o, ho, hdep⟩ := hi
   have ho' : all[i]? = some o := by simpa using ho
   have hil : i < all.length := (List.getElem?_eq_some_iff.1 ho').1
   have hjl : i < listed.size := by rw [hsz]; exact hil
   have h2 : listed[i] = false := by
    rw [Array.getD_eq_getD_getElem?, Array.getElem?_eq_getElem hjl] at h1
    simpa using h1
   have hXi : listed.getD i false = false := by
    rw [Array.getD_eq_getD_getElem?, Array.getElem?_eq_getElem hjl]
    simpa using h2
   obtain ⟨r, hri⟩ : ∃ r, rs[i]? = some r := ⟨rs[i]'(by omega), by simp [hlen, hil]⟩
   have hdeps : ∀ d ∈ depsOf o, listed.getD d false = true := fun d hdd => by
    unfold depsOf at hdd
    obtain ⟨e, he, rfl⟩ := List.mem_map.1 hdd
    obtain ⟨he1, he2⟩ := List.mem_filter.1 he
    exact hdep e (by simpa using he1) he2
   have hset : (fun j => (listed.setIfInBounds i true).getD j false) = fun j => if j = i then true else listed.getD j false := funext fun j => by
    by_cases hji : j = i
    ·subst hji
     simp [Array.getD_eq_getD_getElem?, hjl]
    ·rw [if_neg hji, getD_set_ne false (fun e => hji e.symm)]
   have hsz2 : (listed.setIfInBounds i true).size = all.length := by simp [hsz]
   have hcount2 : (listed.setIfInBounds i true).toList.count false ≤ fuel := by
    rw [Array.toList_setIfInBounds]
    have hl2 : i < listed.toList.length := by simpa using hjl
    rw [List.count_set hl2]
    have e1 : listed.toList[i] = false := by simpa using h2
    rw [e1]
    have e3 : (if (false == false) = true then 1 else 0) = 1 := rfl
    have e4 : (if (true == false) = true then 1 else 0) = 0 := rfl
    rw [e3, e4]
    omega
   have hX2 : Closed all (fun j => (listed.setIfInBounds i true).getD j false) := by
    rw [hset]
    intro k hk' hx d hdd
    by_cases hki : k = i
    ·subst hki
     have hoi : all[k] = o := (List.getElem?_eq_some_iff.1 ho').2
     rw [hoi] at hdd
     by_cases hdi : d = k
     ·simp [hdi]
     ·simp only [hdi, if_false]; exact hdeps d hdd
    ·simp only [hki, if_false] at hx
     by_cases hdi : d = i
     ·simp [hdi]
     ·simp only [hdi, if_false]; exact hX k hk' hx d hdd
   rcases hfacts i o r (by omega) ho' hri with hW | ⟨hW, hGi, _⟩ | ⟨hW, hF⟩
   ·exact hcall fuel listed σ g a w i o hsz hcount2 hX hX2 hXW hG hXi ho' hdeps hW hR hk
   ·exact absurd (hG i _ hGi) (by rw [hXi]; decide)
   ·obtain ⟨hdst, hcase⟩ := hR.once hlen hch hX hXi hdeps ho' hri hF
    have hR2 := hR.more hlen hch hX hXi ho' hri
    rw [← hset] at hR2
    unfold wpOpIn
    rw [ho]
    simp only
    have hnext : ∀ g' v w', Ok A (σ.app r.e) g' a w' → Has g' (σ.app r.e).tk w' r.x v → wpAnyIn A.fe 0 P .any all.toArray Q fuel (listed.setIfInBounds i true) (a.put o.dst v) w' := fun g' v w' h3 h4 =>
     ih _ _ g' _ w' hsz2 hcount2 hX2 (fun j hj => by
      have hj' := congrFun hset j
      rw [hj'] at hj
      by_cases hji : j = i
      ·rw [hji]; exact hW
      ·rw [if_neg hji] at hj; exact hXW j hj) (fun j x hx => by
      have hj' := congrFun hset j
      rw [hj']
      by_cases hji : j = i
      ·simp [hji]
      ·rw [if_neg hji]; exact hG j x hx) hR2 (h3.put o.dst (dstOk_spec hdst) h4)
    rcases hcase with ⟨h3, h4, h5⟩ | ⟨h3, h4⟩
    ·rw [gdOf_spec hk h3]
     simp only [Bool.false_eq_true, if_false]
     refine ⟨fun _ _ => trivial, hnext g undef w ?_ ?_⟩
     ·rw [h5]; exact hk
     ·rw [h4]; exact .d (.raw _)
    ·rw [gdOf_spec hk h3]
     simp only [if_true]
     exact h4 g a w hk _ _ hnext
 -- the results go over to the next phase
 have over : ∀ {rs rs' : List RI} {F' : List (Option (AV × Eff))} {c : Nat} {x : AV} {W : List Nat} {listed : Array Bool} {σ0 σ0' σ σ' : St} {o : Oper}, rs.length = all.length → nextF c x W rs 0 = F' → rs'.length = all.length → chk all base rs' = true → Agree F' rs' → Closed all (fun j => listed.getD j false) → listed.getD c false = false → c < listed.size → listed.size = all.length → all[c]? = some o →
   (∀ j, listed.getD j false = true → W.contains j = false) → Rep all rs σ0 (fun j => listed.getD j false) all.length σ → (∀ rs', (∀ m, m < all.length → listed.getD m false = true → ∀ r r', rs[m]? = some r → rs'[m]? = some r' → r.x = r'.x ∧ r.e = r'.e) → rs'.length = all.length → Rep all rs' σ0 (fun j => listed.getD j false) all.length σ → Rep all rs' σ0' (fun j => listed.getD j false) all.length σ') → Rep all rs' σ0' (fun j => (listed.setIfInBounds c true).getD j false) all.length (σ'.put o.dst x) := by
  intro rs rs' F' c x W listed σ0 σ0' σ σ' o hlen hF' hlen' hch' hag hX hXc hcl hsz ho hXW hR hbase
  have hsame : ∀ m, m < all.length → listed.getD m false = true → ∀ r r', rs[m]? = some r → rs'[m]? = some r' → r.x = r'.x ∧ r.e = r'.e := fun m hm hXm r r' hr hr' => by
   have h1 := nextF_get c x W rs 0 m
   rw [hr] at h1
   simp only [Nat.zero_add] at h1
   have hmc : ¬ m = c := fun e => by rw [e, hXc] at hXm; cases hXm
   rw [if_neg hmc, hXW m hXm] at h1
   simp only [Bool.false_eq_true, if_false] at h1
   rw [hF'] at h1
   obtain ⟨vs, h2⟩ := hag.get h1
   rw [hr'] at h2; cases h2
   exact ⟨rfl, rfl⟩
  have hR' : Rep all rs' σ0 (fun j => listed.getD j false) all.length σ := by
   refine ⟨fun t => ?_, fun q => ?_, fun q => ?_⟩
   ·rw [hR.get]
    refine lst_cong _ fun m hm hXm => ?_
    have hr : rs[m]? = some (rs[m]'(by omega)) := by simp [hlen, hm]
    have hr' : rs'[m]? = some (rs'[m]'(by omega)) := by simp [hlen', hm]
    have := (hsame m hm hXm _ _ hr hr').1
    unfold wT; rw [hr, hr']
    cases all[m]? with
    | none => rfl
    | some om => simp only [this]
   ·rw [hR.blk]
    refine lst_cong _ fun m hm hXm => ?_
    have hr : rs[m]? = some (rs[m]'(by omega)) := by simp [hlen, hm]
    have hr' : rs'[m]? = some (rs'[m]'(by omega)) := by simp [hlen', hm]
    have := (hsame m hm hXm _ _ hr hr').2
    unfold wB; rw [hr, hr']
    revert this
    generalize rs[m]'(by omega) = r1
    generalize rs'[m]'(by omega) = r2
    obtain ⟨x1, e1, v1⟩ := r1
    obtain ⟨x2, e2, v2⟩ := r2
    rintro rfl
    cases e1 <;> rfl
   ·rw [hR.tok]
    refine lst_cong _ fun m hm hXm => ?_
    have hr : rs[m]? = some (rs[m]'(by omega)) := by simp [hlen, hm]
    have hr' : rs'[m]? = some (rs'[m]'(by omega)) := by simp [hlen', hm]
    have := (hsame m hm hXm _ _ hr hr').2
    unfold wK; rw [hr, hr']
    revert this
    generalize rs[m]'(by omega) = r1
    generalize rs'[m]'(by omega) = r2
    obtain ⟨x1, e1, v1⟩ := r1
    obtain ⟨x2, e2, v2⟩ := r2
    rintro rfl
    cases e1 <;> rfl
  have hc1 := nextF_get c x W rs 0 c
  have hcn : c < all.length := by omega
  have hrc : rs[c]? = some (rs[c]'(by omega)) := by simp [hlen, hcn]
  rw [hrc] at hc1
  simp only [Nat.zero_add, if_true] at hc1
  rw [hF'] at hc1
  obtain ⟨vs, h2⟩ := hag.get hc1
  have h3 := (hbase rs' hsame hlen' hR').more hlen' hch' hX hXc ho h2
  have hset : (fun j => (listed.setIfInBounds c true).getD j false) = fun j => if j = c then true else listed.getD j false := funext fun j => by
   by_cases hji : j = c
   ·subst hji
    simp [Array.getD_eq_getD_getElem?, hcl]
   ·rw [if_neg hji, getD_set_ne false (fun e => hji e.symm)]
  rw [hset]
  exact h3
 have least : ∀ {c : Nat} {rs : List RI}, c < all.length → chk all base rs = true → ∀ i, (laterL all c).contains i = true → c ≤ i ∧ (c = i ∨ isAnc (ancs all) c i = true) := fun {c rs} hc hch i hi => by
  obtain ⟨hd, _⟩ := chk_spec hch
  rcases (laterL_spec hi).2 with h | h
  ·subst h; exact ⟨Nat.le_refl _, .inl rfl⟩
  ·have := (ancOk hd (X := fun _ => false) (fun k hk hx => by cases hx)).lt c i h
   exact ⟨by omega, .inr h⟩
 induction h with
 | fin hr hch hag hf =>
  rename_i G F σ0 σn rs
  intro fuel listed σ g a w hsz hcount hX hF hG hRep hk
  have hR0 : Rep all rs σ0 (fun _ => true) 0 σ0 := ⟨fun _ => rfl, fun _ => rfl, fun _ => rfl⟩
  have hlen := (runsG_facts (rsAll := rs) (σ0 := σ0) hr rfl rfl hR0 (fun _ h => h)).2.2
  refine phase G [] σ0 σn rs hr hch (fun j h => by simp at h) (fun _ g a w hk => hfin σn g a w hf hk) (fun _ _ _ _ _ _ _ _ _ _ _ _ _ _ _ _ _ h => by simp at h) (fun h => absurd rfl h) fuel listed σ g a w hsz hcount hX (fun _ _ => by simp) hG (hRep rs hlen hch hag) hk
 | call c W bs ks hW hn hr hch hag hno hL hc hat hdst ha hret hpan ih =>
  rename_i G F σ0 σn rs o cl p f cs ys post
  subst hW
  intro fuel listed σ g a w hsz hcount hX hF hG hRep hk
  have hR0 : Rep all rs σ0 (fun _ => true) 0 σ0 := ⟨fun _ => rfl, fun _ => rfl, fun _ => rfl⟩
  obtain ⟨_, hRn, hlen⟩ := runsG_facts (rsAll := rs) (σ0 := σ0) hr rfl rfl hR0 (fun _ h => h)
  rw [Nat.zero_add] at hRn
  have hcl : c < all.length := (List.getElem?_eq_some_iff.1 hat.ho).1
  have hXc : listed.getD c false = false := by
   cases hc : listed.getD c false with
   | false => rfl
   | true =>
    have := hF c hc
    cases hfc : F.getD c none with
    | none => rw [hfc] at this; cases this
    | some v => rw [hfc] at hn; cases hn
  have hcself : (laterL all c).contains c = true := by
   rw [List.contains_eq_mem]
   have : c ∈ laterL all c := by unfold laterL; rw [List.mem_filter]; exact ⟨by simpa using hcl, by simp⟩
   simpa using this
  refine phase G (laterL all c) σ0 σn rs hr hch (fun j h => (laterL_spec h).1) (fun h => by rw [h] at hcself; simp at hcself) ?_ (fun _ => ⟨c, hcself, least hcl hch⟩) fuel listed σ g a w hsz hcount hX (fun j hj => ?_) hG (hRep rs hlen hch hag) hk
  ·intro fuel listed σ g a w i o' hsz hcount2 hX hX2 hXW hG hXi ho' hdeps hWi hR hk
   -- the operation is the call itself
   have hXc : listed.getD c false = false := by
    cases hc : listed.getD c false with
    | false => rfl
    | true => have := hXW c hc; rw [hcself] at this; cases this
   obtain rfl : c = i := by
    rcases (least hcl hch i hWi).2 with h | h
    ·exact h
    ·exfalso
     obtain ⟨hd, _⟩ := chk_spec hch
     have hA := ancOk hd hX2
     have hil : i < all.length := (laterL_spec hWi).1
     have h1 := hA.down i hil (by simp [Array.getD_eq_getD_getElem?, show i < listed.size by omega]) c h
     have h2 := hA.lt c i h
     rw [getD_set_ne false (by omega : i ≠ c)] at h1
     rw [hXc] at h1; cases h1
   have hoo := hat.ho
   rw [ho'] at hoo
   cases hoo
   obtain ⟨htmp, hgd⟩ := hR.atCall (N := A.N) hRn hlen hch hX hXc hdeps ho' hdst
   have heval : ∀ q ∈ o.op.operands.toList, σ.eval q = σn.eval q := fun q hq => by
    cases q with
    | tmp t => exact htmp t (by
      unfold tmpsOf
      rw [List.mem_append]
      left
      rw [List.mem_filterMap]
      exact ⟨.tmp t, hq, rfl⟩)
    | const | global | func => rfl
   have hpo : p ∈ o.op.operands.toList := by rw [hat.hop]; simp [Op.operands, Call.operands, hat.hp]
   have hargs : cl.args.toList.map σ.eval = cl.args.toList.map σn.eval := List.map_congr_left fun q hq => heval q (by
    rw [hat.hop]
    simp only [Op.operands, Call.operands, Array.toList_append, List.mem_append]
    exact .inr hq)
   have hownB : ∀ m (r : RI), rs[m]? = some r → r.e.ownB = true := fun m r hr => List.all_eq_true.1 hno r (List.mem_of_getElem? hr)
   have hblk : ∀ q, lentN q = true → σ.blk q = σ0.blk q := fun q hq => by
    rw [hR.blk]
    refine lst_none _ fun m hm _ => ?_
    have hrm : rs[m]? = some (rs[m]'(by omega)) := by simp [hlen, hm]
    have h1 := hownB m _ hrm
    unfold wB; rw [hrm]
    revert h1
    generalize rs[m]'(by omega) = r1
    obtain ⟨x1, e1, v1⟩ := r1
    intro h1
    cases e1 with
    | none => rfl
    | tok r' b => rfl
    | blk r' b =>
     simp only
     split
     ·rename_i e; rw [e] at h1; simp [Eff.ownB, hq] at h1
     ·rfl
   have htok : ∀ q, lentN q = true → σ.tok q = σ0.tok q := fun q hq => by
    rw [hR.tok]
    refine lst_none _ fun m hm _ => ?_
    have hrm : rs[m]? = some (rs[m]'(by omega)) := by simp [hlen, hm]
    have h1 := hownB m _ hrm
    unfold wK; rw [hrm]
    revert h1
    generalize rs[m]'(by omega) = r1
    obtain ⟨x1, e1, v1⟩ := r1
    intro h1
    cases e1 with
    | none => rfl
    | blk r' b => rfl
    | tok r' b =>
     simp only
     split
     ·rename_i e; rw [e] at h1; simp [Eff.ownB, hq] at h1
     ·rfl
   have hLd0 := (lentChk_spec hL).1
   have hLd : Lends σ (σ0.lends bs ks) := ⟨fun r b hb => (hblk r (fixN_lent (hLd0.bnm r b hb))).trans (hLd0.blk r b hb), hLd0.bnm, fun r k hb => (htok r (stkN_lent (hLd0.tnm r k hb).1)).trans (hLd0.tok r k hb), hLd0.tnm⟩
   unfold wpOpIn
   rw [show all.toArray[c]? = some o by simpa using ho']
   simp only
   rw [gdOf_spec hk (hgd.trans hat.hg)]
   simp only [if_true]
   obtain ⟨hen, hcon⟩ := id hc
   have hnm : ∀ res L', post (.ret res L') → True := fun _ _ _ => trivial
   refine opOk_callL hat.hop hat.hp ((heval p hpo).trans hat.hf) (by rw [hargs]; exact ha) hc.named hLd hk _ _ (fun res L' g' v w' hpost h1 h2 => ?_) (fun pv g' w' hpost h1 => hpn pv g' a w' (hpan pv hpost.1) h1)
   obtain ⟨hpost, hnb, hnt⟩ := hpost
   have hput := h1.put o.dst (dstOk_spec hat.hd) h2
   refine ih res L' hpost fuel (listed.setIfInBounds c true) _ g' _ w' (by simp [hsz]) hcount2 hX2 (fun j hj => ?_) (fun j x hx => ?_) (fun rs' hlen' hch' hag' => ?_) hput
   ·rw [nextF_get]
    have hset : (listed.setIfInBounds c true).getD j false = if j = c then true else listed.getD j false := by
     by_cases hji : j = c
     ·subst hji
      simp [Array.getD_eq_getD_getElem?, show j < listed.size by omega]
     ·rw [if_neg hji, getD_set_ne false (fun e => hji e.symm)]
    rw [hset] at hj
    have hjl : j < rs.length := by
     by_cases hjc : j = c
     ·rw [hlen, hjc]; exact hcl
     ·rw [if_neg hjc] at hj
      rw [hlen, ← hsz]
      by_cases hl : j < listed.size
      ·exact hl
      ·simp [Array.getD_eq_getD_getElem?, Array.getElem?_eq_none (Nat.le_of_not_lt hl)] at hj
    rw [List.getElem?_eq_getElem hjl]
    simp only [Nat.zero_add]
    by_cases hjc : j = c
    ·rw [if_pos hjc]; rfl
    ·rw [if_neg hjc] at hj ⊢
     rw [hXW j hj]; rfl
   ·simp only [look] at hx
    by_cases hjc : c = j
    ·subst hjc
     simp [Array.getD_eq_getD_getElem?, show c < listed.size by omega]
    ·rw [if_neg hjc] at hx
     rw [getD_set_ne false hjc]; exact hG j x hx
   ·refine over hlen rfl hlen' hch' hag' hX hXc (by omega) hsz ho' hXW hR fun rs2 hsame hlen2 hR2 => ?_
    have hown2 : ∀ m, m < all.length → listed.getD m false = true → ∀ r' : RI, rs2[m]? = some r' → r'.e.ownB = true := fun m hm hXm r' hr' => by
     have hrm : rs[m]? = some (rs[m]'(by omega)) := by simp [hlen, hm]
     rw [← (hsame m hm hXm _ _ hrm hr').2]
     exact hownB m _ hrm
    have hLn : ∀ q, (look (σ0.lends bs ks).blks q).isSome = true → lentN q = true := fun q hq => by
     cases hl : look (σ0.lends bs ks).blks q with
     | none => rw [hl] at hq; cases hq
     | some v =>
      have hm := (look_keepL_mem _ _ _ _ hl).1
      have h7 := hL
      unfold lentChk at h7
      rw [Bool.and_eq_true, List.all_eq_true] at h7
      have := h7.1 q hm
      rw [Bool.and_eq_true] at this
      exact fixN_lent this.1
    refine ⟨fun t => ?_, fun q => ?_, fun q => ?_⟩
    ·rw [St.get_callL, St.get_callL]
     exact hR2.get t
    ·have hcb : ∀ σ : St, (σ.callL (σ0.lends bs ks) L').blk q = match look L'.blks q with | some v => v | none => if (look (σ0.lends bs ks).blks q).isSome = true then none else σ.blk q := fun σ => by
      unfold St.blk St.callL
      simp only [look_append, look_killSB]
      cases look L'.blks q with
      | some v => rfl
      | none =>
       simp only
       cases look σ.blks q with
       | none => simp
       | some v =>
        simp only [Option.map_some, Option.getD_some]
        split
        ·rfl
        ·cases v <;> rfl
     rw [hcb, hcb]
     cases hl : look L'.blks q with
     | some v =>
      have hq : lentN q = true := fixN_lent (hnb q v hl)
      simp only
      refine (lst_none _ fun m hm hXm => ?_).symm
      have hrm : rs2[m]? = some (rs2[m]'(by omega)) := by simp [hlen2, hm]
      have h1 := hown2 m hm hXm _ hrm
      unfold wB; rw [hrm]
      revert h1
      generalize rs2[m]'(by omega) = r1
      obtain ⟨x1, e1, v1⟩ := r1
      intro h1
      cases e1 with
      | none => rfl
      | tok r' b => rfl
      | blk r' b =>
       simp only
       split
       ·rename_i e; rw [e] at h1; simp [Eff.ownB, hq] at h1
       ·rfl
     | none =>
      simp only
      split
      ·rename_i hs
       have hq := hLn q hs
       refine (lst_none _ fun m hm hXm => ?_).symm
       have hrm : rs2[m]? = some (rs2[m]'(by omega)) := by simp [hlen2, hm]
       have h1 := hown2 m hm hXm _ hrm
       unfold wB; rw [hrm]
       revert h1
       generalize rs2[m]'(by omega) = r1
       obtain ⟨x1, e1, v1⟩ := r1
       intro h1
       cases e1 with
       | none => rfl
       | tok r' b => rfl
       | blk r' b =>
        simp only
        split
        ·rename_i e; rw [e] at h1; simp [Eff.ownB, hq] at h1
        ·rfl
      ·exact hR2.blk q
    ·have hcb : ∀ σ : St, (σ.callL (σ0.lends bs ks) L').tok q = match look L'.toks q with | some v => v | none => if stkN q = true then none else σ.tok q := fun σ => by
      unfold St.tok St.callL
      simp only [look_append, look_killSK]
      cases look L'.toks q with
      | some v => rfl
      | none =>
       simp only
       cases look σ.toks q with
       | none => simp
       | some v =>
        simp only [Option.map_some, Option.getD_some]
     rw [hcb, hcb]
     have zero : lentN q = true → ∀ v0, v0 = lst (wK rs2 q) (fun j => listed.getD j false) v0 all.length := fun hq v0 => by
      refine (lst_none _ fun m hm hXm => ?_).symm
      have hrm : rs2[m]? = some (rs2[m]'(by omega)) := by simp [hlen2, hm]
      have h1 := hown2 m hm hXm _ hrm
      unfold wK; rw [hrm]
      revert h1
      generalize rs2[m]'(by omega) = r1
      obtain ⟨x1, e1, v1⟩ := r1
      intro h1
      cases e1 with
      | none => rfl
      | blk r' b => rfl
      | tok r' b =>
       simp only
       split
       ·rename_i e; rw [e] at h1; simp [Eff.ownB, hq] at h1
       ·rfl
     cases hl : look L'.toks q with
     | some v => exact zero (stkN_lent (hnt q v hl)) v
     | none =>
      simp only
      split
      ·rename_i hs; exact zero (stkN_lent hs) none
      ·exact hR2.tok q
  ·cases hcj : (laterL all c).contains j with
   | false => rfl
   | true =>
    exfalso
    rcases (least hcl hch j hcj).2 with h | h
    ·subst h; rw [hXc] at hj; cases hj
    ·obtain ⟨hd, _⟩ := chk_spec hch
     have h1 := (ancOk hd hX).down j (laterL_spec hcj).1 hj c h
     rw [hXc] at h1; cases h1
 | con c W hW hn hr hch hag hc hat hdst ha hret ih =>
  rename_i G F σ0 σn rs o cl p f cs ys x
  subst hW
  intro fuel listed σ g a w hsz hcount hX hF hG hRep hk
  have hR0 : Rep all rs σ0 (fun _ => true) 0 σ0 := ⟨fun _ => rfl, fun _ => rfl, fun _ => rfl⟩
  obtain ⟨_, hRn, hlen⟩ := runsG_facts (rsAll := rs) (σ0 := σ0) hr rfl rfl hR0 (fun _ h => h)
  rw [Nat.zero_add] at hRn
  have hcl : c < all.length := (List.getElem?_eq_some_iff.1 hat.ho).1
  have hXc : listed.getD c false = false := by
   cases hc : listed.getD c false with
   | false => rfl
   | true =>
    have := hF c hc
    cases hfc : F.getD c none with
    | none => rw [hfc] at this; cases this
    | some v => rw [hfc] at hn; cases hn
  have hcself : (laterL all c).contains c = true := by
   rw [List.contains_eq_mem]
   have : c ∈ laterL all c := by unfold laterL; rw [List.mem_filter]; exact ⟨by simpa using hcl, by simp⟩
   simpa using this
  refine phase G (laterL all c) σ0 σn rs hr hch (fun j h => (laterL_spec h).1) (fun h => by rw [h] at hcself; simp at hcself) ?_ (fun _ => ⟨c, hcself, least hcl hch⟩) fuel listed σ g a w hsz hcount hX (fun j hj => ?_) hG (hRep rs hlen hch hag) hk
  ·intro fuel listed σ g a w i o' hsz hcount2 hX hX2 hXW hG hXi ho' hdeps hWi hR hk
   have hXc : listed.getD c false = false := by
    cases hc : listed.getD c false with
    | false => rfl
    | true => have := hXW c hc; rw [hcself] at this; cases this
   obtain rfl : c = i := by
    rcases (least hcl hch i hWi).2 with h | h
    ·exact h
    ·exfalso
     obtain ⟨hd, _⟩ := chk_spec hch
     have hA := ancOk hd hX2
     have hil : i < all.length := (laterL_spec hWi).1
     have h1 := hA.down i hil (by simp [Array.getD_eq_getD_getElem?, show i < listed.size by omega]) c h
     have h2 := hA.lt c i h
     rw [getD_set_ne false (by omega : i ≠ c)] at h1
     rw [hXc] at h1; cases h1
   have hoo := hat.ho
   rw [ho'] at hoo
   cases hoo
   obtain ⟨htmp, hgd⟩ := hR.atCall (N := A.N) hRn hlen hch hX hXc hdeps ho' hdst
   have heval : ∀ q ∈ o.op.operands.toList, σ.eval q = σn.eval q := fun q hq => by
    cases q with
    | tmp t => exact htmp t (by
      unfold tmpsOf
      rw [List.mem_append]
      left
      rw [List.mem_filterMap]
      exact ⟨.tmp t, hq, rfl⟩)
    | const | global | func => rfl
   have hpo : p ∈ o.op.operands.toList := by rw [hat.hop]; simp [Op.operands, Call.operands, hat.hp]
   have hargs : cl.args.toList.map σ.eval = cl.args.toList.map σn.eval := List.map_congr_left fun q hq => heval q (by
    rw [hat.hop]
    simp only [Op.operands, Call.operands, Array.toList_append, List.mem_append]
    exact .inr hq)
   unfold wpOpIn
   rw [show all.toArray[c]? = some o by simpa using ho']
   simp only
   rw [gdOf_spec hk (hgd.trans hat.hg)]
   simp only [if_true]
   refine opOk_callF hat.hop hat.hp ((heval p hpo).trans hat.hf) (by rw [hargs]; exact ha) hc g a w hk _ _ (fun g' v w' h1 h2 => ?_)
   have hput := h1.put o.dst (dstOk_spec hat.hd) h2
   refine ih fuel (listed.setIfInBounds c true) _ g' _ w' (by simp [hsz]) hcount2 hX2 (fun j hj => ?_) (fun j x hx => ?_) (fun rs' hlen' hch' hag' => ?_) hput
   ·rw [nextF_get]
    have hset : (listed.setIfInBounds c true).getD j false = if j = c then true else listed.getD j false := by
     by_cases hji : j = c
     ·subst hji
      simp [Array.getD_eq_getD_getElem?, show j < listed.size by omega]
     ·rw [if_neg hji, getD_set_ne false (fun e => hji e.symm)]
    rw [hset] at hj
    have hjl : j < rs.length := by
     by_cases hjc : j = c
     ·rw [hlen, hjc]; exact hcl
     ·rw [if_neg hjc] at hj
      rw [hlen, ← hsz]
      by_cases hl : j < listed.size
      ·exact hl
      ·simp [Array.getD_eq_getD_getElem?, Array.getElem?_eq_none (Nat.le_of_not_lt hl)] at hj
    rw [List.getElem?_eq_getElem hjl]
    simp only [Nat.zero_add]
    by_cases hjc : j = c
    ·rw [if_pos hjc]; rfl
    ·rw [if_neg hjc] at hj ⊢
     rw [hXW j hj]; rfl
   ·simp only [look] at hx
    by_cases hjc : c = j
    ·subst hjc
     simp [Array.getD_eq_getD_getElem?, show c < listed.size by omega]
    ·rw [if_neg hjc] at hx
     rw [getD_set_ne false hjc]; exact hG j x hx
   ·exact over hlen rfl hlen' hch' hag' hX hXc (by omega) hsz ho' hXW hR fun rs2 hsame hlen2 hR2 => hR2
  ·cases hcj : (laterL all c).contains j with
   | false => rfl
   | true =>
    exfalso
    rcases (least hcl hch j hcj).2 with h | h
    ·subst h; rw [hXc] at hj; cases hj
    ·obtain ⟨hd, _⟩ := chk_spec hch
     have h1 := (ancOk hd hX).down j (laterL_spec hcj).1 hj c h
     rw [hXc] at h1; cases h1
theorem goDrawnL (n : Nat) {id : Nat} {ops : Array Oper} {s : List Itm} {σ : St} {Q : Exit → St → Prop} (hP : P.follows .mixedOrders = true)
  (h : DP P A ops.toList (id * 1000) (fun σn => go P A n .norm s σn Q) (fun pv => Q (.panic [{ v := pv, recovered := false }]) ⟨[], [], []⟩) [] [] σ) : SemM P A (.code (.region id ops true)) s σ Q := by
 intro g a w hk
 refine wpIn_region_any hP ?_
 have key : ∀ pv (s : List Itm), stk P A s Q (.panic [{ v := pv, recovered := false }]) ⟨[], [], []⟩ = Q (.panic [{ v := pv, recovered := false }]) ⟨[], [], []⟩ := fun pv s => by
  induction s with
  | nil => rfl
  | cons x s ih => cases x <;> exact ih
 have e2 : ∀ {V : Type} (wr : Nat → Option V) (v0 : V) n, lst wr (fun _ => false) v0 n = v0 := fun wr v0 n => by
  induction n with
  | zero => rfl
  | succ n ih => rw [lst]; simpa using ih
 have e : (fun j => (Array.replicate ops.size false).getD j false) = fun _ => false := funext fun j => by
  simp only [Array.getD_eq_getD_getElem?, Array.getElem?_replicate]; split <;> rfl
 have := dp_ok (Q := postOf A (stk P A s Q)) (fun σn g a w hf hk => ⟨σn, g, go_ok n .norm s σn Q hf, hk⟩) (fun pv g a w hp hk => ⟨⟨[], [], []⟩, g, by rw [key]; exact hp, hk⟩) h ops.size (Array.replicate ops.size false) σ g a { w with drawn := w.drawn + 1 } (by simp) (by simp) (fun k _ hx => Bool.noConfusion (hx.symm.trans (congrFun e k))) (fun j hx => Bool.noConfusion (hx.symm.trans (congrFun e j))) (fun j x hx => by simp [look] at hx)
  (fun rs _ _ _ => by rw [e]; exact ⟨fun t => (e2 _ _ _).symm, fun t => (e2 _ _ _).symm, fun t => (e2 _ _ _).symm⟩) hk.drew
 simpa using this
theorem goDr (n : Nat) {id : Nat} {ops : Array Oper} {s : List Itm} {σ : St} {Q : Exit → St → Prop} (hP : P.follows .mixedOrders = true) (h : go P A n (.dops ops.toList ops.toList 0 (id * 1000) []) s σ Q) : SemM P A (.code (.region id ops true)) s σ Q := satC_drawn (go_ok n _ _ _ _ h hP)
variable {all : List Oper} {base : Nat} {fin : St → Prop} {pan : Value → Prop} {G : List (Nat × AV)} {F : List (Option (AV × Eff))} {σ0 : St}
theorem dFin (h : runG P A.N all base G [] all 0 σ0 [] fun rs σn => chk all base rs = true ∧ Agree F rs ∧ fin σn) : DP P A all base fin pan G F σ0 := by
 obtain ⟨rs, σ', h1, h2, h3, h4⟩ := runG_spec _ _ _ _ _ h
 rw [List.nil_append] at h2 h3
 exact .fin h1 h2 h3 h4
theorem dCall (c : Nat) (W : List Nat) (bs ks : List Nat) {f : FuncId} {ys : List AV} {post : Out → Prop} (hc : ConL P f ys (σ0.lends bs ks) post) {o : Oper} {cl : Call} {p : Operand} (cs : List AV) (ho : all[c]? = some o) (hop : o.op = .call cl) (hp : cl.callee = .value p)
  (hW : laterL all c = W) (hn : (F.getD c none).isNone = true) (hL : lentChk σ0 bs ks = true) (hdst : W.all (fun j => match (all[j]?).bind Oper.dst with | some t => !(tmpsOf all o).contains t | none => true) = true) (hd : dstOk A.N o = true)
  (h : runG P A.N all base G W all 0 σ0 [] fun rs σn => chk all base rs = true ∧ Agree F rs ∧ rs.all (fun r => r.e.ownB) = true ∧ σn.eval p = .fn f cs ∧ gdOf A.N all σn o = some true ∧ closeXL (cl.args.toList.map σn.eval ++ cs) = some ys ∧
   (∀ x L', post (.ret x L') → DP P A all base fin pan ((c, x) :: G) (nextF c x W rs 0) (σ0.callL (σ0.lends bs ks) L')) ∧ ∀ pv, post (.pan pv) → pan pv) : DP P A all base fin pan G F σ0 := by
 obtain ⟨rs, σ', h1, h2, h3, h4, h5, h6, h7, h8, h9⟩ := runG_spec _ _ _ _ _ h
 rw [List.nil_append] at h2 h3 h4 h8
 exact .call c W bs ks hW hn h1 h2 h3 h4 hL hc ⟨ho, hop, hp, h5, h6, hd⟩ hdst h7 h8 h9
theorem dCon (c : Nat) (W : List Nat) {f : FuncId} {ys : List AV} {x : AV} (hc : Con P f ys x) {o : Oper} {cl : Call} {p : Operand} (cs : List AV) (ho : all[c]? = some o) (hop : o.op = .call cl) (hp : cl.callee = .value p)
  (hW : laterL all c = W) (hn : (F.getD c none).isNone = true) (hdst : W.all (fun j => match (all[j]?).bind Oper.dst with | some t => !(tmpsOf all o).contains t | none => true) = true) (hd : dstOk A.N o = true)
  (h : runG P A.N all base G W all 0 σ0 [] fun rs σn => chk all base rs = true ∧ Agree F rs ∧ σn.eval p = .fn f cs ∧ gdOf A.N all σn o = some true ∧ closeL (cl.args.toList.map σn.eval ++ cs) = some ys ∧
   DP P A all base fin pan ((c, x) :: G) (nextF c x W rs 0) σ0) : DP P A all base fin pan G F σ0 := by
 obtain ⟨rs, σ', h1, h2, h3, h5, h6, h7, h8⟩ := runG_spec _ _ _ _ _ h
 rw [List.nil_append] at h2 h3 h8
 exact .con c W hW hn h1 h2 h3 hc ⟨ho, hop, hp, h5, h6, hd⟩ hdst h7 h8
attribute [go_sem] runG nextF Agree Eff.ownB List.contains_cons List.contains_nil
end
section
open Go Go.RowKit
structure Sk where
 ver : Nat
 len : Nat
 rows : List (List D)
structure RS where
 toks : List LTok
 at_ : Nat
 td : Sk
 nm : Sk
 ni : Sk
 pt : Sk
abbrev rdBlk (s : RS) : Blk := .cell 62 [.d (.sl (encTs s.toks)), .d (.raw (.int .i64 s.at_)), .stk 910 11 s.td.ver 0 s.td.len, .stk 911 1 s.nm.ver 0 s.nm.len, .stk 912 1 s.ni.ver 0 s.ni.len, .stk 913 6 s.pt.ver 0 s.pt.len]
abbrev rdL (s : RS) : Lent := ⟨[(901, some (rdBlk s))], [(910, some ⟨11, 120, s.td.ver, some s.td.rows⟩), (911, some ⟨1, 9, s.nm.ver, some s.nm.rows⟩), (912, some ⟨1, 3, s.ni.ver, some s.ni.rows⟩), (913, some ⟨6, 36, s.pt.ver, some s.pt.rows⟩)]⟩
abbrev pvR (s : RS) : Value := .iface 102 (.agg #[.int .i64 s.at_])
theorem fail_c (s : RS) : ConL Tryz.prog 116 [.box 901 0] (rdL s) (fun o => o = .pan (pvR s)) := by
 refine conL_of [901] [910, 911, 912, 913] Tryz.func116 rfl (by decide +kernel) (by simp [Tryz.ntmps116]) fun A hA => ?_
 rw [Tryz.ntmps116] at hA
 refine goC 300 ?_
 simp only [go_sem, hA]
 refine goPanic rfl (by simp only [go_sem]; rfl) rfl ?_
 simp only [go_sem]
 exact ⟨_, rfl, rfl⟩
def postNext (s : RS) (o : Out) : Prop := match s.toks[s.at_]? with
 | some t => o = .ret (.agg ((encT t).map .d)) (rdL s)
 | none => o = .pan (pvR s)
set_option maxRecDepth 100000 in
set_option maxHeartbeats 4000000 in
theorem next_r (s : RS) : ConL Tryz.prog 115 [.box 901 0] (rdL s) (postNext s) := by
 refine conL_of [901] [910, 911, 912, 913] Tryz.func115 rfl (by decide +kernel) (by simp [Tryz.ntmps115]) fun A hA => ?_
 rw [Tryz.ntmps115] at hA
 refine goC 300 ?_
 by_cases h : s.at_ < s.toks.length
 ·have g0 : decide ((s.toks.length : Int) ≤ (s.at_ : Int)) = false := decide_eq_false (by omega)
  have ht : (encTs s.toks).getD (s.at_ : Int).toNat [] = encT s.toks[s.at_] := by rw [Int.toNat_natCast, encTs_at _ _ h]
  have hp : s.toks[s.at_]? = some s.toks[s.at_] := List.getElem?_eq_getElem h
  simp only [go_sem, hA, encTs_length, g0, Tryz.results115]
  refine ⟨by rfl, ⟨by omega, by omega, by rw [ht]; rfl⟩, ?_⟩
  simp only [go_sem, hA, ht, encT]
  refine ⟨by rfl, ?_⟩
  exact ⟨_, rfl, rfl, by unfold postNext; rw [hp]; rfl⟩
 ·have g0 : decide ((s.toks.length : Int) ≤ (s.at_ : Int)) = true := decide_eq_true (by omega)
  have hp : s.toks[s.at_]? = none := List.getElem?_eq_none (by omega)
  simp only [go_sem, hA, encTs_length, g0]
  refine ⟨by rfl, ?_⟩
  refine goCallL [901] [910, 911, 912, 913] 300 (fail_c s) rfl rfl rfl rfl rfl (by simp only [go_sem, hA]) (fun _ _ h => by cases h) (fun pv h => ?_)
  cases h
  exact ⟨_, rfl, by unfold postNext; rw [hp]⟩
def isR (s : RS) (k : Int) (t : ByteArray) : Bool := match s.toks[s.at_]? with
 | some x => decide (x.kind = k) && decide ((⟨x.text.toArray⟩ : ByteArray) = t)
 | none => false
set_option maxRecDepth 100000 in
set_option maxHeartbeats 8000000 in
theorem is_r (s : RS) (k : Int) (t : ByteArray) : ConL Tryz.prog 60 [.box 901 0, .d (.raw (.int .i64 k)), .d (.raw (.string t))] (rdL s) (fun o => o = .ret (.d (.raw (.bool (isR s k t)))) (rdL s)) := by
 refine conL_of [901] [910, 911, 912, 913] Tryz.func60 rfl (by decide +kernel) (by simp [Tryz.ntmps60]) fun A hA => ?_
 rw [Tryz.ntmps60] at hA
 refine goC 400 ?_
 by_cases h : s.at_ < s.toks.length
 ·have g0 : decide ((s.at_ : Int) < (s.toks.length : Int)) = true := decide_eq_true (by omega)
  have ht : (encTs s.toks).getD (s.at_ : Int).toNat [] = encT s.toks[s.at_] := by rw [Int.toNat_natCast, encTs_at _ _ h]
  have hp : s.toks[s.at_]? = some s.toks[s.at_] := List.getElem?_eq_getElem h
  generalize hx : s.toks[s.at_] = x at ht hp
  by_cases hk : x.kind = k
  ·have g1 : decide (x.kind = k) = true := decide_eq_true hk
   simp only [go_sem, hA, encTs_length, g0, g1, ht, encT, Tryz.results60]
   refine ⟨⟨by omega, by omega⟩, ⟨by omega, by omega⟩, by rfl, _, rfl, rfl, ?_⟩
   unfold isR; rw [hp]; simp only [g1, Bool.true_and]
  ·have g1 : decide (x.kind = k) = false := decide_eq_false hk
   simp only [go_sem, hA, encTs_length, g0, g1, ht, encT, Tryz.results60]
   refine ⟨⟨by omega, by omega⟩, by rfl, _, rfl, rfl, ?_⟩
   unfold isR; rw [hp]; simp only [g1, Bool.false_and]
 ·have g0 : decide ((s.at_ : Int) < (s.toks.length : Int)) = false := decide_eq_false (by omega)
  have hp : s.toks[s.at_]? = none := List.getElem?_eq_none (by omega)
  simp only [go_sem, hA, encTs_length, g0, Tryz.results60]
  refine ⟨by rfl, _, rfl, rfl, ?_⟩
  unfold isR; rw [hp]
theorem isR_lt {s : RS} {k : Int} {t : ByteArray} (h : isR s k t = true) : s.at_ < s.toks.length := by
 unfold isR at h
 split at h
 ·rename_i hx; exact (List.getElem?_eq_some_iff.1 hx).1
 ·cases h
def postExpect (s : RS) (k : Int) (t : ByteArray) (o : Out) : Prop := if isR s k t = true then o = .ret (.tup []) (rdL { s with at_ := s.at_ + 1 }) else o = .pan (pvR s)
set_option maxRecDepth 100000 in
set_option maxHeartbeats 4000000 in
theorem expect_r (s : RS) (k : Int) (t : ByteArray) (hs : s.toks.length ≤ 1048576) : ConL Tryz.prog 77 [.box 901 0, .d (.raw (.int .i64 k)), .d (.raw (.string t))] (rdL s) (postExpect s k t) := by
 refine conL_of [901] [910, 911, 912, 913] Tryz.func77 rfl (by decide +kernel) (by simp [Tryz.ntmps77]) fun A hA => ?_
 rw [Tryz.ntmps77] at hA
 refine goC 300 ?_
 simp only [go_sem, hA]
 refine goCallL [901] [910, 911, 912, 913] 300 (is_r s k t) rfl rfl rfl rfl rfl (by simp only [go_sem, hA]) (fun res L' h => ?_) (fun pv h => by cases h)
 cases h
 cases hi : isR s k t with
 | true =>
  have hl := isR_lt hi
  simp only [go_sem, hA]
  exact ⟨by unfold inI64; omega, .tup [], rfl, rfl, by unfold postExpect; rw [if_pos hi]; rfl⟩
 | false =>
  simp only [go_sem, hA]
  refine goCallL [901] [910, 911, 912, 913] 300 (fail_c s) rfl rfl rfl rfl rfl (by simp only [go_sem, hA]) (fun _ _ h => by cases h) (fun pv h => ?_)
  cases h
  exact ⟨_, rfl, by unfold postExpect; rw [hi]; rfl⟩
end
end Go.Proofs.YtnnolijagpakiaaGreatDoor
