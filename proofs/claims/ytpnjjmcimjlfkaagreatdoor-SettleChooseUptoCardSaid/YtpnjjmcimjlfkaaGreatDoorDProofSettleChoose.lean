/- SettleChoose: for all arguments whose reading is of bulk at most 1048576 the law returns true, and the arguments read afterwards as before. The row lists tables of Go's library; the card ties them to the program's text. -/
import Derived.Test.YtpnjjmcimjlfkaaGreatDoorDaq
import Derived.Test.YtpnjjmcimjlfkaaGreatDoorDbc
namespace Go.Proofs.YtpnjjmcimjlfkaaGreatDoor.settleChoose
open Go.ChangeShapes Go.WideShapes Go.ChangeAt Go.RowKit

set_option maxRecDepth 100000 in
theorem contract (H:Type) (enc:TypeId × Value→H) (W:World) (base:Nat) (args:Array Value) (ds gs:List (DataW H)) (before:List MemPlace)
    (hval:∀ (j:Nat) t v,Tryz.f4.params[j]? = some t→args[j]? = some v→Value.okWide Tryz.prog W .any base t v)
    (hW:DataW.Whole enc Tryz.prog Tryz.f4.params.toList Rows.settleChooseSpec.vars false W args.toList ds gs before) (hk:Rows.uptoSmall H (ds++gs)=true) (hg:Glob Tryz.prog W) :
    Calls Tryz.prog 4 args W fun e W'=>∃ v,e = .returned v∧Rows.settleChooseSpec.post enc Tryz.prog Tryz.f4 false true false false W args v W':=by
  have hW':=hW
  obtain⟨p,q,hA0,hV,rfl,hfz,hnd⟩:=hW
  have hA:DataW.TrodAll enc Tryz.prog W 0 (fun _=>true) true Tryz.f4.params.toList args.toList ds p:=hA0
  rw [Tryz.params4] at hA hval
  obtain⟨v0,vs0,d0,ds0,p0,q0,hargs,rfl,rfl,h0,r0⟩:=trodAll_cons hA
  obtain⟨v1,vs1,d1,ds1,p1,q1,rfl,rfl,rfl,h1,r1⟩:=trodAll_cons r0
  obtain⟨v2,vs2,d2,ds2,p2,q2,rfl,rfl,rfl,h2,r2⟩:=trodAll_cons r1
  obtain⟨rfl,rfl,rfl⟩:=trodAll_nil r2
  obtain rfl:args=#[v0,v1,v2]:=by cases args;simp_all
  obtain⟨rfl,rfl⟩:=trodVars_none hV
  clear hA0
  simp only [List.append_nil] at hW'
  have hkb:Rows.uptoBulk d0+Rows.uptoBulk d1+Rows.uptoBulk d2≤1048576:=by
    have h:=of_decide_eq_true hk
    simp only [List.append_nil,Rows.uptoBulkAll] at h
    omega
  have hlt0:∀ x ∈ p0,x.block<W.heap.size:=fun x hx=>hW'.lt x (List.mem_append.2 (.inl hx))
  obtain⟨t0,hx0,hn0⟩:=zzC (hval 0 26 v0 rfl rfl) h0 hlt0
  have hlt1:∀ x ∈ p1,x.block<W.heap.size:=fun x hx=>hW'.lt x (List.mem_append.2 (.inr (List.mem_append.2 (.inl hx))))
  obtain⟨t1,hx1,hn1⟩:=zBE (hval 1 3 v1 rfl rfl) h1
  have hlt2:∀ x ∈ p2,x.block<W.heap.size:=fun x hx=>hW'.lt x (List.mem_append.2 (.inr (List.mem_append.2 (.inr (hx)))))
  obtain⟨t2,hx2,hn2⟩:=zBE (hval 2 3 v2 rfl rfl) h2
  have hc:=ztM t0 (fun x hx d hd=>by have:=zwg hx hd;omega) t1 t2 hn1 hn2
  refine(zzt (vs:=[v0,v1,v2]) hc hg rfl (fun i hi hv=>by
    match i,hi with
    | 0,_=>exact hx0
    | 1,_=>exact hx1
    | 2,_=>exact hx2)).mono fun e W' ⟨he,hg⟩=>?_
  subst he
  exact⟨_,rfl,zpd (pa:=p0++(p1++p2)) (pv:=[]) hW' (fun _ _ _=>trodAll_cons_mk (shut_bool Tryz.underlying4 _) trodAll_mk0) (fun sp hsp=>by
      have k1:=(trodAll_cons_mk (WideElems.Trod_stays (sp':=sp) (by kernel_rfl:laidOutB Tryz.prog=true) (by kernel_rfl) (of_decide_eq_true (by kernel_rfl)) h0 (fun x hx=>hg.same (hlt0 x hx)) (fun x hx=>hsp x (List.mem_append.2 (.inl hx)))) (trodAll_cons_mk (WideElems.Trod_stays (sp':=sp) (by kernel_rfl:laidOutB Tryz.prog=true) (by kernel_rfl) (of_decide_eq_true (by kernel_rfl)) h1 (fun x hx=>hg.same (hlt1 x hx)) (fun x hx=>hsp x (List.mem_append.2 (.inr (List.mem_append.2 (.inl hx)))))) (trodAll_cons_mk (WideElems.Trod_stays (sp':=sp) (by kernel_rfl:laidOutB Tryz.prog=true) (by kernel_rfl) (of_decide_eq_true (by kernel_rfl)) h2 (fun x hx=>hg.same (hlt2 x hx)) (fun x hx=>hsp x (List.mem_append.2 (.inr (List.mem_append.2 (.inr (hx))))))) trodAll_mk0)))
      simp only [List.append_nil] at k1
      exact k1) (fun _ _=>rfl) (by simp)
    hg (ok_one (by kernel_rfl) rfl (okWide_bool_mk Tryz.underlying4 _))⟩

theorem laid_met (os:Os):laidMet Tryz.prog Rows.settleChooseUptoRow.laid ((zkC os).forCall (fun _ _=>0) ⟨#[],#[.agg #[.slice none 0 0,.slice none 0 0,.slice none 0 0],.int .i64 0,.int .i64 0],[]⟩).memory:=
  laidMet_of_run' 8 (by kernel_rfl) (by kernel_rfl)
theorem reads (os:Os) {H:Type} (enc:TypeId × Value→H):∃ places,DataW.whole enc Tryz.prog ((zkC os).forCall (fun _ _=>0) ⟨#[],#[.agg #[.slice none 0 0,.slice none 0 0,.slice none 0 0],.int .i64 0,.int .i64 0],[]⟩).memory Tryz.f4.params.toList Rows.settleChooseSpec.vars false #[Value.agg #[.slice none 0 0,.slice none 0 0,.slice none 0 0],.int .i64 0,.int .i64 0].toList 8=some ([.agg [.nil,.nil,.nil],.lit (.int .i64 0),.lit (.int .i64 0)],[],places):=
  ⟨[],by kernel_rfl⟩

set_option maxRecDepth 100000 in
theorem lifted (os:Os) (started:os.Started) (H:Type) (enc:TypeId × Value→H) (F:Stop.Interp) :
    ReturnsInHanded {} Tryz.checked os 4 .any ((Rows.OpenSpec.upto Rows.settleChooseSpec).preRow enc Tryz.prog Tryz.f4 Rows.settleChooseUptoRow.domain false Rows.settleChooseUptoRow.laid) (((Rows.OpenSpec.upto Rows.settleChooseSpec).at F).post enc Tryz.prog Tryz.f4 false true false false):=by
  obtain⟨places,hx⟩:=reads os enc
  refine returnsInHanded_of_row (C:=Tryz.checked) (s:=Rows.OpenSpec.upto Rows.settleChooseSpec) own started (by kernel_rfl) Tryz.func4
    (witness_row_at (enc:=enc) (C:=Tryz.checked) false (zkC os) #[.agg #[.slice none 0 0,.slice none 0 0,.slice none 0 0],.int .i64 0,.int .i64 0] rfl (by kernel_rfl) (by kernel_rfl) (by kernel_rfl)
      (OpenSpec.preRow_of_cond 8 hx (by kernel_rfl) (fun k hk=>by cases hk;kernel_rfl) (by kernel_rfl) (laid_met os))) ?_
  intro W base args ds gs before hval hW _ hcond _ hlaid hsh _
  exact contract H enc W base args ds gs before hval hW (hcond _ rfl) (zEk hlaid hsh)

set_option maxRecDepth 100000 in
set_option maxHeartbeats 40000000 in
theorem closed:joinedFacts Tryz.pinned.checked.prog 4 Tryz.f4 (Rows.OpenSpec.upto Rows.settleChooseSpec).bare Rows.settleChooseUptoRow=true:=by
  simp only [joinedFacts,Bool.and_eq_true]
  refine⟨⟨⟨⟨⟨⟨⟨⟨⟨⟨⟨⟨⟨⟨⟨⟨⟨⟨⟨⟨⟨⟨⟨⟨⟨⟨⟨⟨⟨⟨⟨?_,?_⟩,?_⟩,?_⟩,?_⟩,?_⟩,?_⟩,?_⟩,?_⟩,?_⟩,?_⟩,?_⟩,?_⟩,?_⟩,?_⟩,?_⟩,?_⟩,?_⟩,?_⟩,?_⟩,?_⟩,?_⟩,?_⟩,?_⟩,?_⟩,?_⟩,?_⟩,?_⟩,?_⟩,?_⟩,?_⟩,?_⟩ <;> decide +kernel
theorem said:Rows.SettleChooseUptoSaid:=
  OpenClaim.holds_of_cond 4 Tryz.f4 rfl rfl rfl rfl rfl rfl rfl ⟨rfl,rfl,rfl,rfl,rfl⟩ rfl rfl rfl rfl rfl (by kernel_rfl) Tryz.func4 closed
    (of_decide_eq_true (by kernel_rfl)) (by unfold Func.isWrapper;first | (rw [if_pos (by decide +kernel)];kernel_rfl) | (rw [if_neg (by decide +kernel)];exact⟨rfl,rfl⟩))
    (fun os started H enc _ F=>by rw [OpenClaim.pre_eq_preRow];exact lifted os started H enc F)

theorem plain (f:FuncId) (fn:Func) (hf:Tryz.pinned.checked.prog.funcNamed Rows.settleChooseUptoRow.func=some f) (hfn:Tryz.pinned.checked.prog.funcs[f]? = some fn) :
    false=Tryz.pinned.checked.prog.looks []∧∀ (j:Nat) t,fn.params[j]? = some t→Tryz.pinned.checked.prog.wantsStandIn t=false:=by
  obtain rfl:f=4:=Option.some.inj ((show Tryz.prog.funcNamed Rows.settleChooseUptoRow.func=some 4 by kernel_rfl).symm.trans hf) |>.symm
  obtain rfl:fn=Tryz.f4:=(Option.some.inj (Tryz.func4.symm.trans hfn)).symm
  refine⟨by kernel_rfl,fun j t ht=>?_⟩
  rw [Tryz.params4] at ht
  have ht2:t=26∨t=3:=by simpa using Array.mem_of_getElem? ht
  rcases ht2 with rfl | rfl
  · exact(show Tryz.prog.wantsStandIn 26=false by kernel_rfl)
  · exact(show Tryz.prog.wantsStandIn 3=false by kernel_rfl)

theorem card:Rows.SettleChooseUptoCardSaid:=
  Claim7.holds_tied_plain_at .later [] _ _ _ _ said (fun _ h=>by cases h) (by kernel_rfl) (fun _ h=>by cases h) settleChooseUpto_row_tie rfl ⟨rfl,rfl⟩ (by kernel_rfl) rfl plain (by kernel_rfl)
end Go.Proofs.YtpnjjmcimjlfkaaGreatDoor.settleChoose
