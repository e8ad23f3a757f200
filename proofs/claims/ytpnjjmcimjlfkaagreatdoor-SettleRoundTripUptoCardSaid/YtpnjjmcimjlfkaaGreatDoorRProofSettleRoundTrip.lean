/- SettleRoundTrip: for all arguments whose reading is of bulk at most 1048576 the law returns true, and the arguments read afterwards as before. The row lists tables of Go's library; the card ties them to the program's text. -/
import Derived.Test.YtpnjjmcimjlfkaaGreatDoorRas
import Derived.Test.YtpnjjmcimjlfkaaGreatDoorRbd
namespace Go.Proofs.YtpnjjmcimjlfkaaGreatDoor.settleRoundTrip
open Go.ChangeShapes Go.WideShapes Go.ChangeAt Go.RowKit

set_option maxRecDepth 100000 in
theorem contract (H:Type) (enc:TypeId × Value->H) (W:World) (base:Nat) (args:Array Value) (ds gs:List (DataW H)) (before:List MemPlace)
    (hval:∀ (j:Nat) t v,Tryz.f6.params[j]? = some t->args[j]? = some v->Value.okWide Tryz.prog W .any base t v)
    (hW:DataW.Whole enc Tryz.prog Tryz.f6.params.toList Rows.settleRoundTripSpec.vars false W args.toList ds gs before) (hk:Rows.uptoSmall H (ds++gs)=true) (hg:Glob Tryz.prog W) :
    Calls Tryz.prog 6 args W fun e W'=>∃ v,e = .returned v/\Rows.settleRoundTripSpec.post enc Tryz.prog Tryz.f6 false true false false W args v W':=by
  have hW':=hW
  obtain⟨p,q,hA0,hV,rfl,hfz,hnd⟩:=hW
  have hA:DataW.TrodAll enc Tryz.prog W 0 (fun _=>true) true Tryz.f6.params.toList args.toList ds p:=hA0
  rw [Tryz.params6] at hA hval
  obtain⟨v0,vs0,d0,ds0,p0,q0,hargs,rfl,rfl,h0,r0⟩:=trodAll_cons hA
  obtain⟨v1,vs1,d1,ds1,p1,q1,rfl,rfl,rfl,h1,r1⟩:=trodAll_cons r0
  obtain⟨v2,vs2,d2,ds2,p2,q2,rfl,rfl,rfl,h2,r2⟩:=trodAll_cons r1
  obtain⟨rfl,rfl,rfl⟩:=trodAll_nil r2
  obtain rfl:args=#[v0,v1,v2]:=by cases args;simp_all
  obtain⟨rfl,rfl⟩:=trodVars_none hV
  clear hA0
  simp only [List.append_nil] at hW'
  have hkb:Rows.uptoBulk d0+Rows.uptoBulk d1+Rows.uptoBulk d2<=1048576:=by
    have h:=of_decide_eq_true hk
    simp only [List.append_nil,Rows.uptoBulkAll] at h
    omega
  have hlt0:∀ x ∈ p0,x.block<W.heap.size:=fun x hx=>hW'.lt x (List.mem_append.2 (.inl hx))
  obtain⟨t0,hx0,hn0⟩:=zCT h0 hlt0 (hval 0 39 v0 rfl rfl)
  have hlt1:∀ x ∈ p1,x.block<W.heap.size:=fun x hx=>hW'.lt x (List.mem_append.2 (.inr (List.mem_append.2 (.inl hx))))
  obtain⟨t1,hx1,hn1⟩:=zpi (hval 1 26 v1 rfl rfl) h1 hlt1
  have hlt2:∀ x ∈ p2,x.block<W.heap.size:=fun x hx=>hW'.lt x (List.mem_append.2 (.inr (List.mem_append.2 (.inr (hx)))))
  obtain⟨t2,hx2,hn2⟩:=zpi (hval 2 26 v2 rfl rfl) h2 hlt2
  have hc:=zvj t0 t1 t2 (by omega) (fun x hx d hd=>by have:=zmP hx hd;omega) (fun x hx d hd=>by have:=zmP hx hd;omega)
  refine(zxT (vs:=[v0,v1,v2]) hc hg rfl (fun i hi hv=>by
    match i,hi with
    | 0,_=>exact hx0
    | 1,_=>exact hx1
    | 2,_=>exact hx2)).mono fun e W' ⟨he,hg⟩=>?_
  subst he
  exact⟨_,rfl,zoh (pa:=p0++(p1++p2)) (pv:=[]) hW' (fun _ _ _=>trodAll_cons_mk (shut_bool Tryz.underlying4 _) trodAll_mk0) (fun sp hsp=>by
      have k1:=(trodAll_cons_mk (WideElems.Trod_stays (sp':=sp) (by kernel_rfl:laidOutB Tryz.prog=true) (by kernel_rfl) (of_decide_eq_true (by kernel_rfl)) h0 (fun x hx=>hg.same (hlt0 x hx)) (fun x hx=>hsp x (List.mem_append.2 (.inl hx)))) (trodAll_cons_mk (WideElems.Trod_stays (sp':=sp) (by kernel_rfl:laidOutB Tryz.prog=true) (by kernel_rfl) (of_decide_eq_true (by kernel_rfl)) h1 (fun x hx=>hg.same (hlt1 x hx)) (fun x hx=>hsp x (List.mem_append.2 (.inr (List.mem_append.2 (.inl hx)))))) (trodAll_cons_mk (WideElems.Trod_stays (sp':=sp) (by kernel_rfl:laidOutB Tryz.prog=true) (by kernel_rfl) (of_decide_eq_true (by kernel_rfl)) h2 (fun x hx=>hg.same (hlt2 x hx)) (fun x hx=>hsp x (List.mem_append.2 (.inr (List.mem_append.2 (.inr (hx))))))) trodAll_mk0)))
      simp only [List.append_nil] at k1
      exact k1) (fun _ _=>rfl) (by simp)
    hg (ok_one (by kernel_rfl) rfl (okWide_bool_mk Tryz.underlying4 _))⟩

theorem laid_met (os:Os):laidMet Tryz.prog Rows.settleRoundTripUptoRow.laid ((zks os).forCall (fun _ _=>0) ⟨#[],#[.slice none 0 0,.agg #[.slice none 0 0,.slice none 0 0,.slice none 0 0],.agg #[.slice none 0 0,.slice none 0 0,.slice none 0 0]],[]⟩).memory:=
  laidMet_of_run' 8 (by kernel_rfl) (by kernel_rfl)
theorem reads (os:Os) {H:Type} (enc:TypeId × Value->H):∃ places,DataW.whole enc Tryz.prog ((zks os).forCall (fun _ _=>0) ⟨#[],#[.slice none 0 0,.agg #[.slice none 0 0,.slice none 0 0,.slice none 0 0],.agg #[.slice none 0 0,.slice none 0 0,.slice none 0 0]],[]⟩).memory Tryz.f6.params.toList Rows.settleRoundTripSpec.vars false #[Value.slice none 0 0,.agg #[.slice none 0 0,.slice none 0 0,.slice none 0 0],.agg #[.slice none 0 0,.slice none 0 0,.slice none 0 0]].toList 8=some ([.nil,.agg [.nil,.nil,.nil],.agg [.nil,.nil,.nil]],[],places):=
  ⟨[],by kernel_rfl⟩

set_option maxRecDepth 100000 in
theorem lifted (os:Os) (started:os.Started) (H:Type) (enc:TypeId × Value->H) (F:Stop.Interp) :
    ReturnsInHanded {} Tryz.checked os 6 .any ((Rows.OpenSpec.upto Rows.settleRoundTripSpec).preRow enc Tryz.prog Tryz.f6 Rows.settleRoundTripUptoRow.domain false Rows.settleRoundTripUptoRow.laid) (((Rows.OpenSpec.upto Rows.settleRoundTripSpec).at F).post enc Tryz.prog Tryz.f6 false true false false):=by
  obtain⟨places,hx⟩:=reads os enc
  refine returnsInHanded_of_row (C:=Tryz.checked) (s:=Rows.OpenSpec.upto Rows.settleRoundTripSpec) own started (by kernel_rfl) Tryz.func6
    (witness_row_at (enc:=enc) (C:=Tryz.checked) false (zks os) #[.slice none 0 0,.agg #[.slice none 0 0,.slice none 0 0,.slice none 0 0],.agg #[.slice none 0 0,.slice none 0 0,.slice none 0 0]] rfl (by kernel_rfl) (by kernel_rfl) (by kernel_rfl)
      (OpenSpec.preRow_of_cond 8 hx (by kernel_rfl) (fun k hk=>by cases hk;kernel_rfl) (by kernel_rfl) (laid_met os))) ?_
  intro W base args ds gs before hval hW _ hcond _ hlaid hsh _
  exact contract H enc W base args ds gs before hval hW (hcond _ rfl) (zDa hlaid hsh)

set_option maxRecDepth 100000 in
set_option maxHeartbeats 40000000 in
theorem closed:joinedFacts Tryz.pinned.checked.prog 6 Tryz.f6 (Rows.OpenSpec.upto Rows.settleRoundTripSpec).bare Rows.settleRoundTripUptoRow=true:=by
  simp only [joinedFacts,Bool.and_eq_true]
  refine⟨⟨⟨⟨⟨⟨⟨⟨⟨⟨⟨⟨⟨⟨⟨⟨⟨⟨⟨⟨⟨⟨⟨⟨⟨⟨⟨⟨⟨⟨⟨?_,?_⟩,?_⟩,?_⟩,?_⟩,?_⟩,?_⟩,?_⟩,?_⟩,?_⟩,?_⟩,?_⟩,?_⟩,?_⟩,?_⟩,?_⟩,?_⟩,?_⟩,?_⟩,?_⟩,?_⟩,?_⟩,?_⟩,?_⟩,?_⟩,?_⟩,?_⟩,?_⟩,?_⟩,?_⟩,?_⟩,?_⟩ <;> decide +kernel
theorem said:Rows.SettleRoundTripUptoSaid:=
  OpenClaim.holds_of_cond 6 Tryz.f6 rfl rfl rfl rfl rfl rfl rfl ⟨rfl,rfl,rfl,rfl,rfl⟩ rfl rfl rfl rfl rfl (by kernel_rfl) Tryz.func6 closed
    (of_decide_eq_true (by kernel_rfl)) (by unfold Func.isWrapper;first | (rw [if_pos (by decide +kernel)];kernel_rfl) | (rw [if_neg (by decide +kernel)];exact⟨rfl,rfl⟩))
    (fun os started H enc _ F=>by rw [OpenClaim.pre_eq_preRow];exact lifted os started H enc F)

theorem plain (f:FuncId) (fn:Func) (hf:Tryz.pinned.checked.prog.funcNamed Rows.settleRoundTripUptoRow.func=some f) (hfn:Tryz.pinned.checked.prog.funcs[f]? = some fn) :
    false=Tryz.pinned.checked.prog.looks []/\∀ (j:Nat) t,fn.params[j]? = some t->Tryz.pinned.checked.prog.wantsStandIn t=false:=by
  obtain rfl:f=6:=Option.some.inj ((show Tryz.prog.funcNamed Rows.settleRoundTripUptoRow.func=some 6 by kernel_rfl).symm.trans hf) |>.symm
  obtain rfl:fn=Tryz.f6:=(Option.some.inj (Tryz.func6.symm.trans hfn)).symm
  refine⟨by kernel_rfl,fun j t ht=>?_⟩
  rw [Tryz.params6] at ht
  have ht2:t=39\/t=26:=by simpa using Array.mem_of_getElem? ht
  rcases ht2 with rfl | rfl
  · exact(show Tryz.prog.wantsStandIn 39=false by kernel_rfl)
  · exact(show Tryz.prog.wantsStandIn 26=false by kernel_rfl)

theorem card:Rows.SettleRoundTripUptoCardSaid:=
  Claim7.holds_tied_plain_at .later [] _ _ _ _ said (fun _ h=>by cases h) (by kernel_rfl) (fun _ h=>by cases h) settleRoundTripUpto_row_tie rfl ⟨rfl,rfl⟩ (by kernel_rfl) rfl plain (by kernel_rfl)
end Go.Proofs.YtpnjjmcimjlfkaaGreatDoor.settleRoundTrip
