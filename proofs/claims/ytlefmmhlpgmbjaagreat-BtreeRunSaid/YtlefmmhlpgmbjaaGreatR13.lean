import Derived.Test.YtlefmmhlpgmbjaaGreatR12
open Option renaming none->gG,some->gP
open Bool renaming false->gH,true->gL,false_eq_true->hl
open Go.AllReady renaming cons->gI,nil->hf
open List renaming setIfInBounds_toArray->gJ,set_cons_zero->hd,take_succ_cons->hq,take_zero->hy,getElem_mem->hB,eq_nil_of_length_eq_zero->hD
open Go.Value renaming slice->gM
open Go.RowKit.Below renaming heap_setCell->gZ,refl->hI
open Go.RowKit renaming Below->hg
open Go.Act renaming put->hh
open Go renaming wpAny_ready->hj,wpQuiet_nil->hn,bodyPost_ret->hG,maxLen->hM
open Go.Proofs.Tryz renaming underlying93->ho,results114->hz,underlying23->hN
open Nat renaming le_refl->hr,zero_add->hJ,zero_le->hL
open Go.Value.slice renaming injEq->hv
open Go.Proofs.Tryz
set_option maxRecDepth 100000
set_option maxHeartbeats 4000000
open Go.Value renaming int->gE,slice->ht,bool->hA,agg->hE
open Go.IntKind renaming i64->ha
open Go.Obj renaming cells->hF
namespace Go.Proofs.YtlefmmhlpgmbjaaGreat
open Go.RowKit
theorem NQ {look:List UInt8->Option Int} {old:List Nd} (e':look=mr old) (eX: ∀k∈old,lC k): ∀(n:Nd) (full:Bool) (p:kq) (po ko:Option Addr) (pc kc:Nat) (a5 aZ a8:Option Addr) (a4 aY a7:Nat) (w:World) {S:Nat->Prop},(∀b,S b->b<w.heap.size)->jf S w (il po pc ko kc n) n->
  pX S w a5 a4 aZ aY a8 a7 old p->kM n->(full=gH->qx look n p)->
  Calls prog 114 #[hE (il po pc ko kc n).toArray, hE (rU a5 a4 aZ aY a8 a7 old p full).toArray] w (Ab S w old (if full then gG else l7 look n p)):=by
 intro n
 induction n using Nd.pW with
 | h n fy=>
 intro full p po ko pc kc a5 aZ a8 a4 aY a7 w S ab dT eY d9 eQ;obtain⟨fA,fa,fc,fd,fe⟩:=info_parts wC;have bX:=gF (gK fa (gK fc (gK fd fe)));clear fa fc fd fe;obtain⟨fq,fn,fo,eW⟩:=dT.parts;obtain⟨m,dm⟩:=nM n.gC.length;obtain⟨E,d6⟩:=nM n.ps.length;obtain⟨V,fi⟩:=nM n.page;obtain⟨dv,d5⟩:=nM old.length;obtain⟨df,d0⟩:=nM p.free.length;obtain⟨dw,cK⟩:=nM p.ws.length;have dM:il po pc ko kc n=[ht po E pc, ht ko m kc, gE ha V]:=by unfold il;rw[dm,d6,fi]
 have eU:rU a5 a4 aZ aY a8 a7 old p full=[ht a5 dv a4, ht aZ df aY, ht a8 dw a7, hA full]:=by unfold rU;rw[d5,d0,cK]
 have gd:=d9.oa;have ge:=(ox fo).1;rw[dm] at gd ge;obtain⟨dc,dU⟩:=nM (Ab S w old (if full then gG else l7 look n p));rw[dM,eU,dU];have e7: ∀i (cF:i<n.gC.length) full p po ko pc kc a5 aZ a8 a4 aY a7 ad (T:Nat->Prop),(∀b,T b->b<ad.heap.size)->jf T ad (il po pc ko kc n.gC[i]) n.gC[i]->pX T ad a5 a4 aZ aY a8 a7 old p->(full=gH->qx look n.gC[i] p)->
   Calls prog 114 #[hE (il po pc ko kc n.gC[i]).toArray, hE (rU a5 a4 aZ aY a8 a7 old p full).toArray] ad (Ab T ad old (if full then gG else l7 look n.gC[i] p)):=
  fun i cF full p po ko pc kc a5 aZ a8 a4 aY a7 ad T Y ag b2 eP=>fy _ (hB cF) full p po ko pc kc a5 aZ a8 a4 aY a7 ad Y ag b2 (d9.kid _ (hB cF)) eP
 obtain⟨c,cy⟩:=nM w.heap.size;obtain⟨W0,cA⟩:=nM ((((w.alloc (hF #[ht po E pc, ht ko m kc, gE ha V] 95)).alloc (hF #[ht a5 dv a4, ht aZ df aY, ht a8 dw a7, hA full] 174)).alloc (hF #[ht gG 0 0, ht gG 0 0, gE ha 0] 95)).alloc (hF #[ht gG 0 0, ht gG 0 0, ht gG 0 0, hA gH] 174));have eS:hg w.heap.size w W0:=by subst cA;exact(((Below.one w _).alloc oC _).alloc oN _).alloc oN _
 have ev:Bx W0 c #[ht po E pc, ht ko m kc, gE ha V] 95:=by subst cA cy;exact(((Bx.new w _ _).alloc _).alloc _).alloc _
 have ew:Bx W0 (c+1) #[ht a5 dv a4, ht aZ df aY, ht a8 dw a7, hA full] 174:=by subst cA cy;exact((Bx.ir _ _ _ _ oC).alloc _).alloc _
 have fJ:Bx W0 (c+1+1) #[ht gG 0 0, ht gG 0 0, gE ha 0] 95:=by subst cA cy;exact(Bx.ir _ _ _ _ oC).alloc _
 have fK:Bx W0 (c+1+1+1) #[ht gG 0 0, ht gG 0 0, ht gG 0 0, hA gH] 174:=by subst cA cy;exact Bx.ir _ _ _ _ oC
 have ds:W0.heap.size=c+4:=by subst cA cy;simp
 have eH:=gF dm;have c9:=gF dU;have fX:=gF e7;have bh:=gF eS;have dC:=gF (gK fn (gK eW fq));have fU:=gF eY;have eB:=gF (gK dT dM);have eJ:=gF ds;have aQ:=gF cy;have eA:=gF eQ;have db:=gF (gK d6 (gK d5 (gK d0 cK)));have da:=gF (gK ev (gK ew (gK fJ fK)));have dF:=gF (gK e' eX);obtain⟨q,s⟩:=ev.c2;obtain⟨f,l⟩:=ew.c2;clear fo fq fn dT eW dm d6 fi dM eU dU e7 fy ds eS eY eQ d9 d5 d0 cK ev ew fJ fK e' eX;go_enter func114,ntmps114;go_wp2_with fail
 go_loopw [6,7,8,9] (fun v i _ _ wr=> ∃(k:Nat) (t:Option Addr) (y:Nat) (KS:List Nd) (pk:kq) (bE:Bool) (M U H:Option Addr) (D G J al af B:Nat),k<=m/\i= gE ha k/\v= ht t k y/\
  Bx wr c #[ht po E pc, ht ko m kc, gE ha V] 95/\Bx wr (c+1) #[ht M al D, ht U af G, ht H B J, hA bE] 174/\
  Hid (Ac (uz look n full p k) KS pk bE/\KS.length=k/\old.length=al/\pk.free.length=af/\pk.ws.length=B/\iM (fun b=>S b\/(W0.heap.size<=b/\b<wr.heap.size)) W0.heap.size wr (ht t k y) KS/\Bx wr (c+1+1) #[ht gG 0 0, ht gG 0 0, gE ha 0] 95/\
   Bx wr (c+1+1+1) #[ht gG 0 0, ht gG 0 0, ht gG 0 0, hA gH] 174/\pX (fun b=>(S b\/(W0.heap.size<=b/\b<wr.heap.size))/\(gM t k y).ownBlock≠gP b) wr M D U G H J old pk/\hg w.heap.size w wr/\W0.heap.size<=wr.heap.size)) (fun _ i _ _ _=>m - (intOf i).toNat)
 case atStart=>have d:=Below.one W0 (hF #[] 95);have cp:=bh.o.size;refine⟨0,gP ⟨W0.heap.size,0,gG⟩,0,[],p,full,a5,aZ,a8,a4,aY,a7,dv,df,dw,oM,rfl,rfl,da.o.1.alloc _,da.o.2.1.alloc _,gF ⟨?_,rfl,db.o.2.1,db.o.2.2.1,db.o.2.2.2,iM.empty _ W0 W0.heap.size W0.heap.size rfl (hr _),da.o.2.2.1.alloc _,da.o.2.2.2.alloc _,(fU.o.keep ab (iq bh.o d)).up fun b h=>⟨.inl h,fun I=>by have:=ab b h;simp[Value.ownBlock] at I;omega⟩,iq bh.o d,d.size⟩⟩;rw[NL];cases full;exact⟨rfl,rfl,rfl⟩;rfl
 case round=>
  clear q s f l;obtain⟨k,t,y,KS,pk,bE,M,U,H,D,G,J,al,af,B,gw,rfl,rfl,aq,av,cS⟩:=hrel;obtain⟨q,s⟩:=aq.c2;obtain⟨f,l⟩:=av.c2
  by_cases d3:k<m
  .
   have bo:k<n.gC.length:=by rw[eH.o];exact d3
   obtain⟨ac,aa,au,a2,aV,aS,aw,ax,a0,bc,cp⟩:=cS.o;have ea:=bh.o.size;have bn: ∀b,(S b\/(W0.heap.size<=b/\b<wr.heap.size))->b<wr.heap.size:=fun b d=>by rcases d with h|h;have:=ab b h;omega;exact h.2
   obtain⟨g,gn,ee,c1,ec,dK,rfl,cm,b1,ba,aX,b6⟩:=(dC.o.2.1.keep ab bc).get bo;have c3:g<wr.heap.size:=by have:=ab g cm;omega
   have eR:bE=gH->qx look n.gC[k] pk:=fun h=>by
    unfold uz at ac;cases full with
    | true=>rw[show bE=gL from ac] at h;cases h
    | false=>
     simp only[hl,if_false] at ac;cases cn:lB look (n.gC.take k) p with
     | none=>rw[cn] at ac;rw[show bE=gL from ac] at h;cases h
     | some x=>rw[cn] at ac;obtain⟨_,-,rfl⟩:=ac;exact(eA.o rfl).kid bo cn
   have dn:=aS.own;obtain⟨bK,bM⟩: ∃bK:Nat->Prop,bK=fun b=>(S b\/(W0.heap.size<=b/\b<wr.heap.size))/\(gM t k y).ownBlock≠gP b:=⟨_,rfl⟩;have bF: ∀b,bK b->b<wr.heap.size:=fun b d=>by rw[bM] at d;exact bn b d.1
   rw[<-bM] at a0;have b6:=b6.up (T:=bK) fun b h=>by rw[bM];exact⟨.inl h,fun I=>by have:=ab b h;have:=dn b I;omega⟩
   have aU:=fun(cR:jv wr)=>fX.o k bo bE pk ee ec c1 dK M U H D G J cR.w bK (fun b d=>iU (bF b d) cR.h.size) (b6.keep bF cR.h) (a0.keep bF cR.h) eR;obtain⟨fD,ca⟩:=nM ((if bE then gG else l7 look n.gC[k] pk));rw[ca] at aU;have co:=NM (look:=look) (full:=full) (p:=p) bo;obtain⟨ed,fb⟩:=nM (n.gC[k]);rw[fb] at aU ca co b1 ba aX;unfold il rU at aU;simp only[au,a2,aV] at aU;have cw:=gF (gK aU (fun(cR:jv wr) b (d:bK b)=>iU (bF b d) cR.h.size));obtain⟨fP,b3⟩:=nM ed.ps.length;obtain⟨fQ,b4⟩:=nM ed.gC.length;obtain⟨A3,bL⟩:=nM ed.page;rw[b3] at b1;rw[b4] at ba;rw[bL] at aX;simp only[b3,b4,bL] at cw;have eI:=gF (gK ca (gK co ac));have cT:=gF (gK aa (gK au (gK aS (gK aw (gK ax (gK a0 (gK bc (gK cp (gK bM (gK bF bn))))))))));have eD:=gF (gK aq av);have dJ:=jv.cells wr;clear ac aa au a2 aV aS aq av aw ax a0 cp bc ea bn cm b6 eR aU ca co fb b3 b4 bL cS dn bM bF;go_upto_region 5 with fail
   refine sf 12 9 2 #[gL,gL,gL,gL,gL,gL,gL,gL,gL,gH,gL,gL,gH,gH] #[gL,gL,gL,gL,gL,gL,gL,gL,gL,gL,gL,gL,gH,gH] (fun i=>if i=6 then gP (rV bK old fD) else if i=10 then gP (pK #[ht gG 0 0, ht gG 0 0, gE ha 0] 95) else if i=11 then gP (pK #[ht gG 0 0, ht gG 0 0, ht gG 0 0, hA gH] 174) else gG) _ oP rfl oO oO oP oO rfl (fun _ _ _ _ h=>h) (sg _ _ rfl) ?_;simp only[hq,hy];refine LW.b 6 6 ?_;simp only[jC];repeat (go_big_quiet_step (fail))
   refine hn ?_;refine LW.z ?_ ?_;. intro aW _;unfold ix;go_simp;exact yn (cw.o.2 _) (cw.o.1 _)
   intro cr;simp only[hh,gU,rV];refine LW.b 3 10 ?_;simp only[jC];repeat (go_big_quiet_step (fail))
   refine hn ?_;refine LW.z ?_ ?_;. intro aW _;unfold ix;go_simp;exact s9 _
   intro bu;simp only[hh,gU,pK];refine LW.z ?_ ?_;. intro aW _;unfold ix;go_simp;exact s9 _
   intro a6;simp only[hh,gU];refine LW.done ?_;intro w5 aF;obtain⟨n',q',bl,bT,bS,bR,bQ,aL,aK,aE,aD,aP,aO,⟨ep,eq,er,es,et,eu,fH⟩,fv,d4,fg⟩:=(aF.get 6 rfl rfl:(rV bK old fD).Φ cr w5);obtain⟨dx,eK⟩:Bx w5 bu.lo #[ht gG 0 0, ht gG 0 0, gE ha 0] 95/\bu.hi=bu.lo+1:=aF.get 10 rfl rfl;obtain⟨fL,eL⟩:Bx w5 a6.lo #[ht gG 0 0, ht gG 0 0, ht gG 0 0, hA gH] 174/\a6.hi=a6.lo+1:=aF.get 11 rfl rfl;have gq:=aF.range 6 cr rfl;have ef:=aF.range 10 bu rfl;have eh:=aF.range 11 a6 rfl;have fB:=aF.apart 6 10 cr bu oF rfl rfl;have fC:=aF.apart 6 11 cr a6 oF rfl rfl;have eg:=aF.apart 10 11 bu a6 oF rfl rfl;have e0:=aF.below;rw[eK] at ef fB eg;rw[eL] at eh fC eg;obtain⟨bY,dO⟩:=nM n'.ps.length;obtain⟨bZ,dP⟩:=nM n'.gC.length;obtain⟨b0,dQ⟩:=nM n'.page;obtain⟨bi,dR⟩:=nM q'.free.length;obtain⟨bj,dS⟩:=nM q'.ws.length;have eV:il bT bS bR bQ n'=[ht bT bY bS, ht bR bZ bQ, gE ha b0]:=by unfold il;rw[dO,dP,dQ]
   rw[dO] at ep;rw[dP] at eq;rw[dQ] at er;rw[cT.o.2.1] at es;rw[dR] at et;rw[dS] at eu;rw[eV] at d4;simp only[ep,eq,er,es,et,eu,fH];clear aF eK eL q s f l dJ ep eq er es et eu fH b1 ba aX c3;generalize cr.lo=lo at *;generalize cr.hi=cF at *;generalize bu.lo=M8 at *;generalize a6.lo=M9 at *;clear cr bu a6;have cd:=mQ dx (ht bT bY bS) (ht bR bZ bQ) (gE ha b0) e0 ef.1;obtain⟨cu,d'⟩:=nM (((w5.setCell ⟨M8,0,gG⟩ (ht bT bY bS)).setCell ⟨M8,1,gG⟩ (ht bR bZ bQ)).setCell ⟨M8,2,gG⟩ (gE ha b0));rw[d'] at cd;have dy:Bx cu M9 #[ht gG 0 0, ht gG 0 0, ht gG 0 0, hA gH] 174:=(cd.same _ oM).trans fL;have ce:=qX dy (ht aL al aK) (ht aE bi aD) (ht aP bj aO) (hA bl) cd.below eh.1;obtain⟨w7,bI⟩:=nM ((((cu.setCell ⟨M9,0,gG⟩ (ht aL al aK)).setCell ⟨M9,1,gG⟩ (ht aE bi aD)).setCell ⟨M9,2,gG⟩ (ht aP bj aO)).setCell ⟨M9,3,gG⟩ (hA bl));rw[bI] at ce;obtain⟨aa,au,aS,aw,ax,a0,bc,cp,bM,bF,bn⟩:=cT.o;obtain⟨aq,av⟩:=eD.o;have fO:w7.heap.size=w5.heap.size:=ce.size.trans cd.size;have ez: ∀b,b≠M8->b≠M9->w7.heap[b]?=w5.heap[b]?:=fun b Y ag=>(ce.same b ag).trans (cd.same b Y);have bV: ∀b,(bK b\/(lo<=b/\b<cF))->b≠M8/\b≠M9/\b<w7.heap.size/\(gM t k y).ownBlock≠gP b/\(S b\/(W0.heap.size<=b/\b<w7.heap.size)):=fun b d=>by rcases d with h|h;have Y:=bF b h;rw[bM] at h;exact⟨oM,oM,oM,h.2,h.1.imp id fun h=>⟨h.1,oM⟩⟩;refine⟨oM,oM,oM,fun I=>?_, .inr ⟨oM,oM⟩⟩;have:=aS.own b I;omega
   have ey:Bx w7 M8 #[ht bT bY bS, ht bR bZ bQ, gE ha b0] 95:=(ce.same _ oM).trans cd.box;have du:jf (fun b=>(S b\/(W0.heap.size<=b/\b<w7.heap.size))/\(gM t k y).ownBlock≠gP b) w7 [ht bT bY bS, ht bR bZ bQ, gE ha b0] n':=d4.same (fun b d=>ez b (bV b d).1 (bV b d).2.1) fun b d=>⟨(bV b d).2.2.2.2,(bV b d).2.2.2.1⟩;have bJ:pX (fun b=>(S b\/(W0.heap.size<=b/\b<w7.heap.size))/\(gM t k y).ownBlock≠gP b) w7 aL aK aE aD aP aO old q':=fg.same (fun b d=>ez b (bV b d).1 (bV b d).2.1) fun b d=>⟨(bV b d).2.2.2.2,(bV b d).2.2.2.1⟩;have c0:=ce.below;have bg:=gF (gK ey (gK ce.box (gK du (gK bJ (gK c0 (gK (gK d' bI) (gK fv (gK (gK dR dS) (gK fO (gK dy dx))))))))));obtain⟨q,s,bC⟩:=dx.c3;obtain⟨f,l,bD⟩:=dy.c3;clear aa au aS aw ax a0 bc cp bM bF bn aq av fO ez bV ey du bJ c0 cd ce d' bI dy fL dx d4 fg fv dO dP dQ dR dS eV gq ef eh fB fC eg e0;refine iG 12 fun K hK=>?_;go_simp;refine hK _ _ ?_;clear hK K;rw[bg.o.2.2.2.2.2.1.1];refine iG 13 fun K hK=>?_;go_simp;refine hK _ _ ?_;clear hK K;rw[bg.o.2.2.2.2.2.1.2];refine kS ?_;clear q s bC f l bD;go_upto_region 6 with fail
   obtain⟨q,s⟩:=bg.o.1.c2;obtain⟨f,l⟩:=bg.o.2.1.c2;obtain⟨w8,dq⟩:=nM ((w7.alloc (hF #[ht bT bY bS, ht bR bZ bQ, gE ha b0] 95)).drew);have cD:hg w7.heap.size w7 w8:=by rw[<-dq];exact(Below.one _ _).drew
   have ex:Bx w8 w7.heap.size #[ht bT bY bS, ht bR bZ bQ, gE ha b0] 95:=by rw[<-dq];exact(Bx.new _ _ _).drew
   have az:Hid ((∀b,(S b\/(W0.heap.size<=b/\b<w8.heap.size))->b<w8.heap.size)/\W0.heap.size<=w8.heap.size/\KS.length=k/\iM (fun b=>S b\/(W0.heap.size<=b/\b<w8.heap.size)) W0.heap.size w8 (ht t k y) KS/\
     jw (fun b=>(S b\/(W0.heap.size<=b/\b<w8.heap.size))/\(gM t k y).ownBlock≠gP b) w8 (gP ⟨w7.heap.size,0,gG⟩) [n']/\Bx w8 c #[ht po E pc, ht (gP ⟨g,gn,gG⟩) m kc, gE ha V] 95/\
     Bx w8 (c+1) #[ht M al D, ht U af G, ht H B J, hA bE] 174/\Bx w8 (c+1+1) #[ht gG 0 0, ht gG 0 0, gE ha 0] 95/\
     Bx w8 (c+1+1+1) #[ht gG 0 0, ht gG 0 0, ht gG 0 0, hA gH] 174/\Bx w8 M9 #[ht aL al aK, ht aE bi aD, ht aP bj aO, hA bl] 174/\
     pX (fun b=>(S b\/(W0.heap.size<=b/\b<w7.heap.size))/\(gM t k y).ownBlock≠gP b) w8 aL aK aE aD aP aO old q'/\hg w.heap.size w w8/\w7.heap.size<=w8.heap.size/\c+4<=W0.heap.size):=by
    obtain⟨ey,bU,du,bJ,c0,-,-,-,-⟩:=bg.o;obtain⟨aa,au,aS,aw,ax,a0,bc,cp,bM,bF,bn⟩:=cT.o;obtain⟨aq,av⟩:=eD.o;have fx:=c0.size;have cq:=cD.size;have gx:=ex.lt;have ds:=eJ.o;have gf:=aQ.o;have dn:=aS.own;have cC:=iq c0 cD;have e9: ∀b,((S b\/(W0.heap.size<=b/\b<w7.heap.size))/\(gM t k y).ownBlock≠gP b)->b<w7.heap.size:=fun b d=>by
     rcases d.1 with h|h;. have:=ab b h;omega
     . exact h.2
    refine⟨fun b d=>?_,oM,aa,(aS.stays bn cC).up fun b d=>d.imp id fun h=>⟨h.1,oM⟩,?_,aq.gD cC,av.gD cC,aw.gD cC,ax.gD cC,bU.gD cD,bJ.keep e9 cD,iq bc cC,cq,oM⟩;.
     rcases d with h|h;. have:=ab b h;omega
     . exact h.2
    . refine s5 (c1:=[ht bT bY bS, ht bR bZ bQ, gE ha b0]) ((gO.bx ex).mono fun b d=>⟨.inr ⟨oM,oM⟩,fun I=>by have:=dn b I;omega⟩) ((du.keep e9 cD).up fun b d=>⟨d.1.imp id fun h=>⟨h.1,oM⟩,d.2⟩)
   have dI:=gF dq;clear cD ex dq;refine qm #[gH,gH,gH,gH,gH,gH,gH] 7 oP oO rfl ?_;refine wpAny_take (i:=0) (v:=(ht t k y)) rfl oP oP oP (fun _ _ _ h=>h) (Or.inl ⟨oO,fun w=>by first|rfl| (go_simp;try with_reducible rfl)⟩) ?_;simp only[List.getElem_toArray,List.getElem_cons_zero,hh,gU];refine hj (rs:=[1,4]) oP oC ?_;refine gI rfl (fun K hK=>?_) (gI rfl (fun K hK=>?_) hf);focus
    go_simp;refine hK _ _ ?_;clear hK K;simp only[gU];refine hj (rs:=[2,4]) oP oC ?_;refine gI rfl (fun K hK=>?_) (gI rfl (fun K hK=>?_) hf);focus
     go_simp;refine hK _ _ ?_;clear hK K;simp only[gU];rw[dI.o];clear q s f l;obtain⟨f,l⟩:=az.o.2.2.2.2.2.2.2.2.2.1.c2;refine hj (rs:=[3,4]) oP oC ?_;refine gI rfl (fun K hK=>?_) (gI rfl (fun K hK=>?_) hf);.
      refine Cm (.tmp 30) (.tmp 32) 93 rfl ho fA _ bX.o.1 bX.o.2.1 bX.o.2.2.1 bX.o.2.2.2 rfl az.o.1 az.o.2.1 t y k 1 KS [n'] az.o.2.2.1 rfl rfl az.o.2.2.2.1 (gP ⟨w7.heap.size,0,gG⟩) 1 rfl (.inr ⟨_,rfl,hr _,by simp[hM]⟩) az.o.2.2.2.2.1 oM ?_;intro bf be bv cX an cZ;refine hK _ _ ?_;clear hK K;simp only[hh,gU];refine wpAny_take (i:=5) (v:=(.slice bf (k+1) be)) rfl oP oP oP (fun _ _ _ h=>h) (Or.inl ⟨oO,fun w=>by first|rfl| (go_simp;try with_reducible rfl)⟩) ?_;simp only[ki,hh,gU];obtain⟨dW,cq,aa,aG,-,aq,av,aw,ax,bU,bJ,cW,eb,bO⟩:=az.o;have bP:=an.size;have bw:=aq.jT aG oM an;have a9:=av.jT aG oM an;have bz:=aw.jT aG oM an;have bA:=ax.jT aG oM an;have c8:=bU.grown an fun I=>aG.vA bU oF I.symm;have bm:=Below.jT cW aG bh.o.size an;have bt:pX (fun b=>(S b\/(W0.heap.size<=b/\b<bv.heap.size))/\(gM bf (k+1) be).ownBlock≠gP b) bv aL aK aE aD aP aO old q':=bJ.same (fun b d=>an.block b (by
        rcases d.1 with h|h;. have:=ab b h;have:=bh.o.size;omega
        .
         omega) fun I=>d.2 I.symm) fun b d=>⟨d.1.imp id fun h=>⟨h.1,oM⟩,fun I=>by
         rcases cZ with h|h;. rw[h] at I;exact d.2 I
         .
          rw[h] at I;have f5:w8.heap.size=b:=by simpa using I
          rcases d.1 with h|h;. have:=ab b h;have:=bh.o.size;omega
          . omega⟩
      have a1:=cX.up (T:=fun b=>S b\/(W0.heap.size<=b/\b<bv.heap.size)) fun b d=>d.imp id fun h=>⟨h.1,oM⟩;have dz:=gF (gK bw (gK a9 (gK bz (gK bA (gK bt (gK a1 (gK bm (gK aa (gK (jU cq bP) bO)))))))));clear f l;obtain⟨f,l⟩:=c8.c2;obtain⟨O,R,P⟩:=a9.c3;clear dW cq aa aG aq av aw ax bU bJ cW eb bO bP bw a9 bz bA c8 bm bt a1 cX an cZ;refine iG 4 fun K hK=>?_;go_simp;refine hK _ _ ?_;clear hK K;simp only[gU];refine iG 6 fun K hK=>?_;go_simp;refine hK _ _ ?_;clear hK K;refine kS ?_;obtain⟨bw,a9,bz,bA,bt,a1,bm,aa,bP,bO⟩:=dz.o;have e:=qX a9 (ht aL al aK) (ht aE bi aD) (ht aP bj aO) (hA bl) bm (by have:=aQ.o;omega);have bp:(gM bf (k+1) be).ownBlock≠gP (c+1):=fun I=>by have:=(a1.own _ I).1;omega
      have a3: ∀b,(S b\/(W0.heap.size<=b/\b<bv.heap.size))->b≠c+1:=fun b d=>by rcases d with h|h;have:=ab b h;have:=aQ.o;omega;omega
      have cj:=(((a1.set (j:=0) (u:= ht aL al aK) bp a3).set (j:=1) (u:= ht aE bi aD) bp a3).set (j:=2) (u:= ht aP bj aO) bp a3).set (j:=3) (u:= hA bl) bp a3;obtain⟨A,cY⟩:=nM ((((bv.setCell ⟨c+1,0,gG⟩ (ht aL al aK)).setCell ⟨c+1,1,gG⟩ (ht aE bi aD)).setCell ⟨c+1,2,gG⟩ (ht aP bj aO)).setCell ⟨c+1,3,gG⟩ (hA bl));rw[cY] at e cj |-;have cv:=e.size;have dD:=gF (gK ((e.same c oM).trans bw:Bx A c _ _) (gK e.box (gK ((e.same _ oM).trans bz:Bx A (c+1+1) _ _) (gK ((e.same _ oM).trans bA:Bx A (c+1+1+1) _ _) (gK (bt.same (T:=fun b=>(S b\/(W0.heap.size<=b/\b<A.heap.size))/\(gM bf (k+1) be).ownBlock≠gP b) (fun b d=>e.same b (a3 b d.1)) fun b d=>by rw[cv];exact d) (gK (cj.up (T:=fun b=>S b\/(W0.heap.size<=b/\b<A.heap.size)) fun b d=>by rw[cv];exact d) (gK e.below (gK (by rw[iI,aa];rfl:(KS++[n']).length=k+1) (by omega:W0.heap.size<=A.heap.size)))))))));clear bw a9 bz bA bt a1 bm aa bP bO e bp a3 cj cY cv f l O R P;go_wp2_with fail;go_roundw;case rel=>
       obtain⟨cN,cO,cP,cQ,ek,el,em,en,eo⟩:=dD.o;obtain⟨ca,co,ac⟩:=eI.o;exact⟨k+1,bf,be,KS++[n'],q',bl,aL,aE,aP,aK,aD,aO,al,bi,bj,oM,oQ,rfl,cN,cO,gF ⟨by rw[co];exact ac.next ca bg.o.2.2.2.2.2.2.1,en,cT.o.2.1,bg.o.2.2.2.2.2.2.2.1.1,bg.o.2.2.2.2.2.2.2.1.2,el,cP,cQ,ek,em,eo⟩⟩
      case measure=>simp[intOf];omega
     focus go_simp;refine hK _ _ ?_;clear hK K;simp only[gU]
    rotate_left;focus go_simp;refine hK _ _ ?_;clear hK K;simp only[gU];refine iG 2 fun K hK=>?_;go_simp;refine hK _ _ ?_;clear hK K;simp only[gU];rw[dI.o];clear q s f l;obtain⟨f,l⟩:=az.o.2.2.2.2.2.2.2.2.2.1.c2
   rotate_left 2;focus go_simp;refine hK _ _ ?_;clear hK K;simp only[gU];refine iG 1 fun K hK=>?_;go_simp;refine hK _ _ ?_;clear hK K;simp only[gU];refine iG 2 fun K hK=>?_;go_simp;refine hK _ _ ?_;clear hK K;simp only[gU];rw[dI.o];clear q s f l;obtain⟨f,l⟩:=az.o.2.2.2.2.2.2.2.2.2.1.c2
   all_goals
    refine iG 3 fun K hK=>?_;refine Cm (.tmp 30) (.tmp 32) 93 rfl ho fA _ bX.o.1 bX.o.2.1 bX.o.2.2.1 bX.o.2.2.2 rfl az.o.1 az.o.2.1 t y k 1 KS [n'] az.o.2.2.1 rfl rfl az.o.2.2.2.1 (gP ⟨w7.heap.size,0,gG⟩) 1 rfl (.inr ⟨_,rfl,hr _,by simp[hM]⟩) az.o.2.2.2.2.1 oM ?_;intro bf be bv cX an cZ;refine hK _ _ ?_;clear hK K;simp only[hh,gU];refine wpAny_take (i:=5) (v:=(.slice bf (k+1) be)) rfl oP oP oP (fun _ _ _ h=>h) (Or.inl ⟨oO,fun w=>by first|rfl| (go_simp;try with_reducible rfl)⟩) ?_;simp only[ki,hh,gU];obtain⟨dW,cq,aa,aG,-,aq,av,aw,ax,bU,bJ,cW,eb,bO⟩:=az.o;have bP:=an.size;have bw:=aq.jT aG oM an;have a9:=av.jT aG oM an;have bz:=aw.jT aG oM an;have bA:=ax.jT aG oM an;have c8:=bU.grown an fun I=>aG.vA bU oF I.symm;have bm:=Below.jT cW aG bh.o.size an;have bt:pX (fun b=>(S b\/(W0.heap.size<=b/\b<bv.heap.size))/\(gM bf (k+1) be).ownBlock≠gP b) bv aL aK aE aD aP aO old q':=bJ.same (fun b d=>an.block b (by
      rcases d.1 with h|h;. have:=ab b h;have:=bh.o.size;omega
      .
       omega) fun I=>d.2 I.symm) fun b d=>⟨d.1.imp id fun h=>⟨h.1,oM⟩,fun I=>by
       rcases cZ with h|h;. rw[h] at I;exact d.2 I
       .
        rw[h] at I;have f5:w8.heap.size=b:=by simpa using I
        rcases d.1 with h|h;. have:=ab b h;have:=bh.o.size;omega
        . omega⟩
    have a1:=cX.up (T:=fun b=>S b\/(W0.heap.size<=b/\b<bv.heap.size)) fun b d=>d.imp id fun h=>⟨h.1,oM⟩;have dz:=gF (gK bw (gK a9 (gK bz (gK bA (gK bt (gK a1 (gK bm (gK aa (gK (jU cq bP) bO)))))))));clear f l;obtain⟨f,l⟩:=c8.c2;obtain⟨O,R,P⟩:=a9.c3;clear dW cq aa aG aq av aw ax bU bJ cW eb bO bP bw a9 bz bA c8 bm bt a1 cX an cZ;refine iG 6 fun K hK=>?_;go_simp;refine hK _ _ ?_;clear hK K;refine kS ?_;obtain⟨bw,a9,bz,bA,bt,a1,bm,aa,bP,bO⟩:=dz.o;have e:=qX a9 (ht aL al aK) (ht aE bi aD) (ht aP bj aO) (hA bl) bm (by have:=aQ.o;omega);have bp:(gM bf (k+1) be).ownBlock≠gP (c+1):=fun I=>by have:=(a1.own _ I).1;omega
    have a3: ∀b,(S b\/(W0.heap.size<=b/\b<bv.heap.size))->b≠c+1:=fun b d=>by rcases d with h|h;have:=ab b h;have:=aQ.o;omega;omega
    have cj:=(((a1.set (j:=0) (u:= ht aL al aK) bp a3).set (j:=1) (u:= ht aE bi aD) bp a3).set (j:=2) (u:= ht aP bj aO) bp a3).set (j:=3) (u:= hA bl) bp a3;obtain⟨A,cY⟩:=nM ((((bv.setCell ⟨c+1,0,gG⟩ (ht aL al aK)).setCell ⟨c+1,1,gG⟩ (ht aE bi aD)).setCell ⟨c+1,2,gG⟩ (ht aP bj aO)).setCell ⟨c+1,3,gG⟩ (hA bl));rw[cY] at e cj |-;have cv:=e.size;have dD:=gF (gK ((e.same c oM).trans bw:Bx A c _ _) (gK e.box (gK ((e.same _ oM).trans bz:Bx A (c+1+1) _ _) (gK ((e.same _ oM).trans bA:Bx A (c+1+1+1) _ _) (gK (bt.same (T:=fun b=>(S b\/(W0.heap.size<=b/\b<A.heap.size))/\(gM bf (k+1) be).ownBlock≠gP b) (fun b d=>e.same b (a3 b d.1)) fun b d=>by rw[cv];exact d) (gK (cj.up (T:=fun b=>S b\/(W0.heap.size<=b/\b<A.heap.size)) fun b d=>by rw[cv];exact d) (gK e.below (gK (by rw[iI,aa];rfl:(KS++[n']).length=k+1) (by omega:W0.heap.size<=A.heap.size)))))))));clear bw a9 bz bA bt a1 bm aa bP bO e bp a3 cj cY cv f l O R P;go_wp2_with fail;go_roundw;case rel=>
     obtain⟨cN,cO,cP,cQ,ek,el,em,en,eo⟩:=dD.o;obtain⟨ca,co,ac⟩:=eI.o;exact⟨k+1,bf,be,KS++[n'],q',bl,aL,aE,aP,aK,aD,aO,al,bi,bj,oM,oQ,rfl,cN,cO,gF ⟨by rw[co];exact ac.next ca bg.o.2.2.2.2.2.2.1,en,cT.o.2.1,bg.o.2.2.2.2.2.2.2.1.1,bg.o.2.2.2.2.2.2.2.1.2,el,cP,cQ,ek,em,eo⟩⟩
    case measure=>simp[intOf];omega
  obtain rfl:k=m:=oM
  obtain⟨ac,aa,au,a2,aV,aS,aw,ax,a0,bc,cp⟩:=cS.o;have ea:=bh.o.size;have ds:=eJ.o;have gf:=aQ.o;have dN:uz look n full p k=if full then gG else lB look n.gC p:=by unfold uz;rw[List.take_of_length_le (by rw[eH.o];exact hr _)]
  have bn: ∀b,(S b\/(W0.heap.size<=b/\b<wr.heap.size))->b<wr.heap.size:=fun b d=>by rcases d with h|h;have:=ab b h;omega;exact h.2
  rw[dN] at ac;cases bE with
  | true=>
   have fm:(if full then gG else l7 look n p)=none:=by
    cases full with
    | true=>rfl
    | false=>
     simp only[hl,if_false] at ac |-;rw[sF];cases cn:lB look n.gC p with
     | none=>rfl
     | some x=>rw[cn] at ac;cases ac.1
   have X:Hid (Bx wr c #[ht po E pc, ht ko k kc, gE ha V] 95/\Bx wr (c+1) #[ht M al D, ht U af G, ht H B J, hA gL] 174/\Bx wr (c+1+1) #[ht gG 0 0, ht gG 0 0, gE ha 0] 95/\
     Bx wr (c+1+1+1) #[ht gG 0 0, ht gG 0 0, ht gG 0 0, hA gH] 174/\hg w.heap.size w wr/\
     ∀A,hg w.heap.size w A->(∀b,b≠c+1+1->b≠c+1+1+1->A.heap[b]?=wr.heap[b]?)->A.heap.size=wr.heap.size->dc (.returned (.tuple #[hE #[ht po E pc, ht ko k kc, gE ha V], hE #[ht M al D, ht U af G, ht H B J, hA gL]])) A):=gF ⟨aq,av,aw,ax,bc,fun A b5 bN cL=>by
    rw[<-c9.o,fm];refine⟨b5,n,pk,gL,po,pc,ko,kc,M,D,U,G,H,J,by unfold rU;rw[eB.o.2,au,a2,aV],rfl,(eB.o.1.keep ab b5).up fun b h=> .inl h,a0.same (fun b d=>?_) fun b d=>d.1.imp id fun h=>⟨oM,oM⟩⟩;rcases d.1 with h|h;. have:=ab b h;exact bN b oM oM
    . exact bN b oM oM⟩
   clear ac aa au a2 aV aS aq av aw ax a0 bc dN fm bn cS;go_upto_region 8 with fail
   clear q s f l;obtain⟨N,aH⟩:=nM ((((wr.setCell ⟨c+1+1,0,gG⟩ (ht po E pc)).setCell ⟨c+1+1,1,gG⟩ (ht ko k kc)).setCell ⟨c+1+1,2,gG⟩ (gE ha V)).drew);obtain⟨ae,aI⟩:=nM ((((N.setCell ⟨c+1+1+1,0,gG⟩ (ht M al D)).setCell ⟨c+1+1+1,1,gG⟩ (ht U af G)).setCell ⟨c+1+1+1,2,gG⟩ (ht H B J)).setCell ⟨c+1+1+1,3,gG⟩ (hA gL));have F:Hid (Bx N c #[ht po E pc, ht ko k kc, gE ha V] 95/\Bx N (c+1) #[ht M al D, ht U af G, ht H B J, hA gL] 174/\Bx N (c+1+1) #[ht po E pc, ht ko k kc, gE ha V] 95/\Bx N (c+1+1+1) #[ht gG 0 0, ht gG 0 0, ht gG 0 0, hA gH] 174/\hg w.heap.size w N/\
     (∀b,b≠c+1+1->N.heap[b]?=wr.heap[b]?)/\N.heap.size=wr.heap.size):=by
    obtain⟨ah,ao,aM,am,aN,-⟩:=X.o;have e:=mQ aM (ht po E pc) (ht ko k kc) (gE ha V) aN (by have:=aQ.o;omega);rw[<-aH];exact gF ⟨Bx.drew (show Bx _ c _ _ from (e.same c oM).trans ah),Bx.drew (show Bx _ (c+1) _ _ from (e.same (c+1) oM).trans ao),e.box.drew,Bx.drew (show Bx _ (c+1+1+1) _ _ from (e.same (c+1+1+1) oM).trans am),e.below.drew,e.same,e.size⟩
   have Z:Hid (Bx ae (c+1+1) #[ht po E pc, ht ko k kc, gE ha V] 95/\Bx ae (c+1+1+1) #[ht M al D, ht U af G, ht H B J, hA gL] 174/\hg w.heap.size w ae/\(∀b,b≠c+1+1->b≠c+1+1+1->ae.heap[b]?=wr.heap[b]?)/\ae.heap.size=wr.heap.size):=by obtain⟨ah,ao,aM,am,aN,cs,ct⟩:=F.o;have e:=qX am (ht M al D) (ht U af G) (ht H B J) (hA gL) aN (by have:=aQ.o;omega);rw[<-aI];exact gF ⟨(e.same (c+1+1) oM).trans aM,e.box,e.below,fun b Y ag=>(e.same b ag).trans (cs b Y),e.size.trans ct⟩
   have aA:=gF aH;have cf:=gF aI;clear aH aI;obtain⟨q,s⟩:=X.o.1.c2;obtain⟨f,l⟩:=X.o.2.1.c2;obtain⟨aB,aJ,aC⟩:=X.o.2.2.1.c3;obtain⟨O,R,P⟩:=X.o.2.2.2.1.c3;refine qm #[gH,gH,gH,gH] 4 oP oO rfl ?_;refine hj (rs:=[0,1]) oP oC ?_;refine gI rfl (fun K hK=>?_) (gI rfl (fun K hK=>?_) hf);focus
    go_simp;refine hK _ _ ?_;clear hK K;simp only[gJ,hd];refine hj (rs:=[1,2]) oP oC ?_;refine gI rfl (fun K hK=>?_) (gI rfl (fun K hK=>?_) hf);focus go_simp;refine hK _ _ ?_;clear hK K;simp only[gU];refine iG 2 fun K hK=>?_;go_simp;refine hK _ _ ?_;clear hK K;simp only[gU];rw[aA.o];clear q s f l aB aJ aC O R P;obtain⟨q,s⟩:=F.o.1.c2;obtain⟨f,l⟩:=F.o.2.1.c2;obtain⟨O,R,P⟩:=F.o.2.2.2.1.c3
    rotate_left;focus go_simp;refine hK _ _ ?_;clear hK K;simp only[gU];rw[aA.o];clear q s f l aB aJ aC O R P;obtain⟨q,s⟩:=F.o.1.c2;obtain⟨f,l⟩:=F.o.2.1.c2;obtain⟨O,R,P⟩:=F.o.2.2.2.1.c3;refine iG 1 fun K hK=>?_;go_simp;refine hK _ _ ?_;clear hK K;simp only[gU]
   rotate_left 2;focus go_simp;refine hK _ _ ?_;clear hK K;simp only[gU];refine iG 0 fun K hK=>?_;go_simp;refine hK _ _ ?_;clear hK K;simp only[gJ,hd];refine iG 2 fun K hK=>?_;go_simp;refine hK _ _ ?_;clear hK K;simp only[gU];rw[aA.o];clear q s f l aB aJ aC O R P;obtain⟨q,s⟩:=F.o.1.c2;obtain⟨f,l⟩:=F.o.2.1.c2;obtain⟨O,R,P⟩:=F.o.2.2.2.1.c3
   all_goals refine iG 3 fun K hK=>?_;go_simp;refine hK _ _ ?_;clear hK K;simp only[gU];refine kS ?_;rw[cf.o];clear q s f l O R P;go_wp2;have cg:=Z.o.1.cell;have ch:=Z.o.2.1.cell;refine hG (v:= .tuple #[hE #[ht po E pc, ht ko k kc, gE ha V], hE #[ht M al D, ht U af G, ht H B J, hA gL]]) (by simp[results,hz,go_sem,cg,ch]) rfl ?_;exact X.o.2.2.2.2.2 _ Z.o.2.2.1 Z.o.2.2.2.1 Z.o.2.2.2.2
  | false=>
   have f':full=false:=by
    cases full with
    | true=>cases ac
    | false=>rfl
   subst f';simp only[hl,if_false] at ac;obtain⟨go,dp⟩: ∃x,lB look n.gC p=gP x:=by
    cases cn:lB look n.gC p with
    | none=>rw[cn] at ac;cases ac
    | some x=>exact⟨x,rfl⟩
   rw[dp] at ac;obtain⟨-,rfl,rfl⟩:=ac;obtain⟨KS,pk⟩:=go;simp only at aa a2 aV aS a0;obtain⟨ff,fw,fh⟩:=(eA.o rfl).done dp V;have ap:l7 look n p=match look (iy (.mk n.ps KS V)) with
     | some g=>gP (.mk n.ps KS g,pk)
     | none=>match pk.free with
      | []=>gG
      | g::r=>gP (.mk n.ps KS g,⟨r,pk.ws++[⟨g,bs (iy (.mk n.ps KS V))⟩]⟩):=by
    rw[sF,dp];rfl
   obtain⟨bB,dk⟩:=nM (iy (.mk n.ps KS V));rw[dk] at ap;obtain⟨bf,be,eM,d7,dh⟩:=aS.done;simp only[hv] at eM;obtain⟨rfl,-,rfl⟩:=eM;rw[aa] at d7;obtain⟨w1,cJ⟩:=nM (wr.setCell ⟨c,1,gG⟩ (ht t k y));have cG: ∀b,b≠c->w1.heap[b]?=wr.heap[b]?:=fun b d=>by rw[<-cJ];exact gZ _ ⟨c,1,gG⟩ _ _ d
   have dt:w1.heap.size=wr.heap.size:=by rw[<-cJ];simp
   have dg:hg w.heap.size w w1:=by rw[<-cJ];exact iT bc oM
   have cN:Bx w1 c #[ht po E pc, ht t k y, gE ha V] 95:=by rw[<-cJ];simpa using aq.set 1 (ht t k y)
   have cO:Bx w1 (c+1) #[ht M al D, ht U af G, ht H B J, hA gH] 174:=(cG _ oM).trans av;have cP:Bx w1 (c+1+1) #[ht gG 0 0, ht gG 0 0, gE ha 0] 95:=(cG _ oM).trans aw;have cQ:Bx w1 (c+1+1+1) #[ht gG 0 0, ht gG 0 0, ht gG 0 0, hA gH] 174:=(cG _ oM).trans ax;have dh:jw (fun b=>S b\/(W0.heap.size<=b/\b<w1.heap.size)) w1 t KS:=(dh.same fun b d=>cG b (by
    rcases d with (h|h)|h;. have:=ab b h;omega
    . omega
    .
     omega)).up fun b d=>by
     rw[dt];rcases d with h|h;. exact h
     . exact .inr h
   have di:pX (fun b=>S b\/(W0.heap.size<=b/\b<w1.heap.size)) w1 M D U G H J old pk:=a0.same (fun b d=>cG b (by
    rcases d.1 with h|h;. have:=ab b h;omega
    . omega)) fun b d=>by rw[dt];exact d.1
   have b8: ∀b,(S b\/(W0.heap.size<=b/\b<w1.heap.size))->b<w1.heap.size:=fun b d=>by rw[dt] at d |-; exact bn b d
   have aT: ∀(g:Int) a b dd de,il a b dd de (.mk n.ps KS g)=[ht a E b, ht dd k de, gE ha g]:=fun g a b dd de=>by unfold il;show [gM a n.ps.length b, ht dd KS.length de, gE ha g]=_;rw[db.o.1,aa]
   have c5: ∀g,jf (fun b=>S b\/(W0.heap.size<=b/\b<w1.heap.size)) w1 [ht po E pc, ht t k y, gE ha g] (.mk n.ps KS g):=fun g=>by have:=jf.of (S:=fun b=>S b\/(W0.heap.size<=b/\b<w1.heap.size)) (w:=w1) g dC.o.2.2 ((dC.o.1.ym ab dg).mono fun b h=> .inl h) (by rw[aa];exact d7) dh;rw[aT] at this;exact this
   have dY:=fun ad (d:hg w1.heap.size w1 ad)=>y4 (.mk n.ps KS V) po t pc y ad (by
    have:=((c5 V).keep b8 d).c fun b h=>iU (b8 b h) d.size;rw[aT];exact this) ff
   simp only[aT,dk] at dY;have eF:=gF dY;have fY:=gF cJ;have C:=gF (gK cN (gK cO (gK cP (gK cQ (gK c5 (gK di (gK b8 (gK dg (by omega:W0.heap.size<=w1.heap.size)))))))));have ar:=gF (gK ap (gK fw (gK fh (gK au (gK a2 (gK aV (gK aT dk)))))));have bC:=aq.free;clear aa au a2 aV aS aq av aw ax a0 bc dN bn cS ap fw fh ff dp dh di b8 c5 dg cN cO cP cQ cG dt cJ dY d7 dk ea aT;go_upto_region 10 with fail
   rw[fY.o];clear q s bC f l;have dA:Hid (∀(ad A:World),(∀b,b<w1.heap.size->b≠c->b≠c+1->ad.heap[b]?=w1.heap[b]?)->w1.heap.size<=ad.heap.size->(∀b,b≠c+1+1->b≠c+1+1+1->A.heap[b]?=ad.heap[b]?)->A.heap.size=ad.heap.size->
     (∀g,jf (fun b=>S b\/(w.heap.size<=b/\b<A.heap.size)) A [ht po E pc, ht t k y, gE ha g] (.mk n.ps KS g))/\pX (fun b=>S b\/(w.heap.size<=b/\b<A.heap.size)) A M D U G H J old pk):=gF (fun ad A Y ag b2 eP=>by
    obtain⟨-,-,-,-,c5,di,b8,dg,gz⟩:=C.o;have fp: ∀b,(S b\/(W0.heap.size<=b/\b<w1.heap.size))->A.heap[b]?=w1.heap[b]?:=fun b d=>by
     have gc:=b8 b d;have gy:b<c\/c+4<=b:=by
      rcases d with h|h;. have:=ab b h;omega
      . omega
     exact(b2 b oM oM).trans (Y b gc oM oM)
    have fu: ∀b,(S b\/(W0.heap.size<=b/\b<w1.heap.size))->S b\/(w.heap.size<=b/\b<A.heap.size):=fun b d=>d.imp id fun h=>⟨oM,oM⟩;exact⟨fun g=>(c5 g).same fp fu,di.same fp fu⟩)
   obtain⟨cc,d8⟩:=nM (bs bB);rw[d8] at eF;have dG:=gF d8;clear d8;obtain⟨q,s⟩:=C.o.1.c2;go_wp2_with fail;refine(eF.o _ (hI _ _)).mono ?_;rintro I fI ⟨rfl,dj⟩;clear q s;have f:=(C.o.2.1.gD dj).cell;have l:=(C.o.2.1.gD dj).lt;obtain⟨gB,gj⟩:=nP wr;subst gj;go_wp2_with fail
   go_loopw [11] (fun j wr=> ∃i:Nat,i<=al/\j= gE ha i/\hg fI.heap.size fI wr/\Hid (∀x (h:x<old.length),x<i->iy old[x]≠bB)) (fun j _=>al - (intOf j).toNat)
   case atStart=>exact⟨0,hL _,rfl,hI _ _,gF fun x h dr=>absurd dr (Nat.not_lt_zero _)⟩
   case round=>
    obtain⟨i,cF,rfl,cV,dB⟩:=hrel;clear f l;have L:=iq dj cV;have q:=(C.o.1.gD L).cell;have s:=(C.o.1.gD L).lt;have bC:=(C.o.1.gD L).free;have f:=(C.o.2.1.gD L).cell;have l:=(C.o.2.1.gD L).lt;have bD:=(C.o.2.1.gD L).free
    by_cases d3:i<al
    .
     have d2:i<old.length:=by rw[ar.o.2.2.2.1];exact d3
     obtain⟨aR,cb,ee,c1,ec,dK,rfl,cm,b1,ba,aX,b6⟩:=(C.o.2.2.2.2.2.1.on.keep C.o.2.2.2.2.2.2.1 L).get d2;have f3:=(ox C.o.2.2.2.2.2.1.os).1;rw[ar.o.2.2.2.1] at f3;have eZ:=(ox C.o.2.2.2.2.2.1.os).2;unfold hM at eZ;rw[ar.o.2.2.2.1] at eZ;have c3:=C.o.2.2.2.2.2.2.1 aR cm;have d1:aR<wr.heap.size:=iU c3 L.size;have aU:=y4 old[i] ee ec c1 dK wr (b6.c fun b h=>iU (C.o.2.2.2.2.2.2.1 b h) L.size) (dF.o.2 _ (hB d2));obtain⟨c6,c4⟩:=nM (old[i]);rw[c4] at b1 ba aX aU;unfold il at aU;obtain⟨fP,b3⟩:=nM c6.ps.length;obtain⟨fQ,b4⟩:=nM c6.gC.length;obtain⟨A3,bL⟩:=nM c6.page;rw[b3] at b1;rw[b4] at ba;rw[bL] at aX;rw[b3,b4,bL] at aU;obtain⟨fG,cI⟩:=nM (bs (iy c6));rw[cI] at aU;have cw:=gF aU;have dE:=gF (gK c4 (gK cI bL));have eG:Hid (aR≠c/\aR≠c+1):=gF (by
      have:=C.o.2.2.2.2.2.2.2.2;rcases cm with h|h;. have:=ab aR h;omega
      . omega)
     have gs:=gF L;have dl:=eG.o.1;have ga:=eG.o.2
     by_cases cE:iy c6=bB
     .
      have gp:(fG.toList==cc.toList)=true:=by rw[<-cI,cE,dG.o];simp
      have fW:=gF cE;clear aU c4 cI b3 b4 bL cm b6 c3 cE L;go_wp2_with fail;refine cw.o.mono ?_;rintro I c7 ⟨rfl,ck⟩;have bH:=iq (iq dj cV) ck;have f1:=(ck.cell d1).trans aX;have gb:aR<c7.heap.size:=iU d1 ck.size;have cM:=C.o.1.gD bH;clear q s bC f l bD b1 ba aX d1;obtain⟨w5,W⟩:=nM (c7.setCell ⟨c,2,gG⟩ (gE ha A3));have ai: ∀b,b≠c->w5.heap[b]?=c7.heap[b]?:=fun b d=>by rw[<-W];exact gZ _ ⟨c,2,gG⟩ _ _ d
      have br:w5.heap.size=c7.heap.size:=by rw[<-W];simp
      have bb:hg w.heap.size w w5:=by rw[<-W];exact iT (iq C.o.2.2.2.2.2.2.2.1 bH) oM
      have ah:Bx w5 c #[ht po E pc, ht t k y, gE ha A3] 95:=by rw[<-W];simpa using cM.set 2 (gE ha A3)
      have bo:look bB=gP A3:=by rw[dF.o.1,NI d2 (fun x h dr=>dB.o x h dr) (by rw[dE.o.1];exact fW.o),dE.o.1,dE.o.2.2]
      have ap:=ar.o.1;rw[bo] at ap;have X:Hid (Bx w5 c #[ht po E pc, ht t k y, gE ha A3] 95/\Bx w5 (c+1) #[ht (gP ⟨aR,cb,gG⟩) al D, ht U af G, ht H B J, hA gH] 174/\Bx w5 (c+1+1) #[ht gG 0 0, ht gG 0 0, gE ha 0] 95/\
        Bx w5 (c+1+1+1) #[ht gG 0 0, ht gG 0 0, ht gG 0 0, hA gH] 174/\hg w.heap.size w w5/\
        ∀A,hg w.heap.size w A->(∀b,b≠c+1+1->b≠c+1+1+1->A.heap[b]?=w5.heap[b]?)->A.heap.size=w5.heap.size->dc (.returned (.tuple #[hE #[ht po E pc, ht t k y, gE ha A3], hE #[ht (gP ⟨aR,cb,gG⟩) al D, ht U af G, ht H B J, hA gH]])) A):=
       gF ⟨ah,(ai _ oM).trans (C.o.2.1.gD bH),(ai _ oM).trans (C.o.2.2.1.gD bH),(ai _ oM).trans (C.o.2.2.2.1.gD bH),bb,fun A b5 bN cL=>by obtain⟨cU,ci⟩:=dA.o w5 A (fun b Y ag _=>(ai b ag).trans (bH.block b Y)) (by rw[br];exact bH.size) bN cL;rw[<-c9.o];simp only[hl,if_false];rw[ap];obtain⟨-,-,-,au,a2,aV,aT,-⟩:=ar.o;refine⟨b5, .mk n.ps KS A3,pk,gH,po,pc,t,y,gP ⟨aR,cb,gG⟩,D,U,G,H,J,by unfold rU;rw[aT,au,a2,aV],⟨rfl,rfl,rfl⟩,by rw[aT];exact cU A3,ci⟩⟩
      have dH:=gF W;obtain⟨q,s,bC⟩:=cM.c3;have f:=(C.o.2.1.gD bH).cell;have l:=(C.o.2.1.gD bH).lt;clear W ai br bb ah bo ap cM bH ck cV;go_upto_region 16 with fail
      rw[dH.o];clear q s bC f l f1 gb;obtain⟨N,aH⟩:=nM ((((w5.setCell ⟨c+1+1,0,gG⟩ (ht po E pc)).setCell ⟨c+1+1,1,gG⟩ (ht t k y)).setCell ⟨c+1+1,2,gG⟩ (gE ha A3)).drew);obtain⟨ae,aI⟩:=nM ((((N.setCell ⟨c+1+1+1,0,gG⟩ (ht (gP ⟨aR,cb,gG⟩) al D)).setCell ⟨c+1+1+1,1,gG⟩ (ht U af G)).setCell ⟨c+1+1+1,2,gG⟩ (ht H B J)).setCell ⟨c+1+1+1,3,gG⟩ (hA gH));have F:Hid (Bx N c #[ht po E pc, ht t k y, gE ha A3] 95/\Bx N (c+1) #[ht (gP ⟨aR,cb,gG⟩) al D, ht U af G, ht H B J, hA gH] 174/\Bx N (c+1+1) #[ht po E pc, ht t k y, gE ha A3] 95/\Bx N (c+1+1+1) #[ht gG 0 0, ht gG 0 0, ht gG 0 0, hA gH] 174/\hg w.heap.size w N/\
        (∀b,b≠c+1+1->N.heap[b]?=w5.heap[b]?)/\N.heap.size=w5.heap.size):=by
       obtain⟨ah,ao,aM,am,aN,-⟩:=X.o;have e:=mQ aM (ht po E pc) (ht t k y) (gE ha A3) aN (by have:=aQ.o;omega);rw[<-aH];exact gF ⟨Bx.drew (show Bx _ c _ _ from (e.same c oM).trans ah),Bx.drew (show Bx _ (c+1) _ _ from (e.same (c+1) oM).trans ao),e.box.drew,Bx.drew (show Bx _ (c+1+1+1) _ _ from (e.same (c+1+1+1) oM).trans am),e.below.drew,e.same,e.size⟩
      have Z:Hid (Bx ae (c+1+1) #[ht po E pc, ht t k y, gE ha A3] 95/\Bx ae (c+1+1+1) #[ht (gP ⟨aR,cb,gG⟩) al D, ht U af G, ht H B J, hA gH] 174/\hg w.heap.size w ae/\(∀b,b≠c+1+1->b≠c+1+1+1->ae.heap[b]?=w5.heap[b]?)/\ae.heap.size=w5.heap.size):=by obtain⟨ah,ao,aM,am,aN,cs,ct⟩:=F.o;have e:=qX am (ht (gP ⟨aR,cb,gG⟩) al D) (ht U af G) (ht H B J) (hA gH) aN (by have:=aQ.o;omega);rw[<-aI];exact gF ⟨(e.same (c+1+1) oM).trans aM,e.box,e.below,fun b Y ag=>(e.same b ag).trans (cs b Y),e.size.trans ct⟩
      have aA:=gF aH;have cf:=gF aI;clear aH aI;obtain⟨q,s⟩:=X.o.1.c2;obtain⟨f,l⟩:=X.o.2.1.c2;obtain⟨aB,aJ,aC⟩:=X.o.2.2.1.c3;obtain⟨O,R,P⟩:=X.o.2.2.2.1.c3;refine qm #[gH,gH,gH,gH] 4 oP oO rfl ?_;refine hj (rs:=[0,1]) oP oC ?_;refine gI rfl (fun K hK=>?_) (gI rfl (fun K hK=>?_) hf);focus
       go_simp;refine hK _ _ ?_;clear hK K;simp only[gJ,hd];refine hj (rs:=[1,2]) oP oC ?_;refine gI rfl (fun K hK=>?_) (gI rfl (fun K hK=>?_) hf);focus go_simp;refine hK _ _ ?_;clear hK K;simp only[gU];refine iG 2 fun K hK=>?_;go_simp;refine hK _ _ ?_;clear hK K;simp only[gU];rw[aA.o];clear q s f l aB aJ aC O R P;obtain⟨q,s⟩:=F.o.1.c2;obtain⟨f,l⟩:=F.o.2.1.c2;obtain⟨O,R,P⟩:=F.o.2.2.2.1.c3
       rotate_left;focus go_simp;refine hK _ _ ?_;clear hK K;simp only[gU];rw[aA.o];clear q s f l aB aJ aC O R P;obtain⟨q,s⟩:=F.o.1.c2;obtain⟨f,l⟩:=F.o.2.1.c2;obtain⟨O,R,P⟩:=F.o.2.2.2.1.c3;refine iG 1 fun K hK=>?_;go_simp;refine hK _ _ ?_;clear hK K;simp only[gU]
      rotate_left 2;focus go_simp;refine hK _ _ ?_;clear hK K;simp only[gU];refine iG 0 fun K hK=>?_;go_simp;refine hK _ _ ?_;clear hK K;simp only[gJ,hd];refine iG 2 fun K hK=>?_;go_simp;refine hK _ _ ?_;clear hK K;simp only[gU];rw[aA.o];clear q s f l aB aJ aC O R P;obtain⟨q,s⟩:=F.o.1.c2;obtain⟨f,l⟩:=F.o.2.1.c2;obtain⟨O,R,P⟩:=F.o.2.2.2.1.c3
      all_goals refine iG 3 fun K hK=>?_;go_simp;refine hK _ _ ?_;clear hK K;simp only[gU];refine kS ?_;rw[cf.o];clear q s f l O R P;go_wp2;have cg:=Z.o.1.cell;have ch:=Z.o.2.1.cell;refine hG (v:= .tuple #[hE #[ht po E pc, ht t k y, gE ha A3], hE #[ht (gP ⟨aR,cb,gG⟩) al D, ht U af G, ht H B J, hA gH]]) (by simp[results,hz,go_sem,cg,ch]) rfl ?_;exact X.o.2.2.2.2.2 _ Z.o.2.2.1 Z.o.2.2.2.1 Z.o.2.2.2.2
     have gp:(fG.toList==cc.toList)=false:=by rw[beq_eq_false_iff_ne];intro I;have:=oB I;rw[<-cI, <-dG.o] at this;exact cE (yF this)
     have fT:Hid (∀x (h:x<old.length),x<i+1->iy old[x]≠bB):=gF fun x h dr=>by
      by_cases I:x=i
      subst I;rw[c4];exact cE;exact dB.o x h oM
     clear aU c4 cI b3 b4 bL cm b6 c3 cE L;go_wp2_with fail;refine cw.o.mono ?_;rintro I c7 ⟨rfl,ck⟩;have Z:=gF (iq cV ck);clear q s bC f l bD b1 ba aX ck;go_wp2_with fail;go_roundw;case rel=>exact⟨i+1,oM,oQ,Z.o,fT⟩
     case measure=>simp[intOf];omega
    obtain rfl:i=al:=oM
    have bo:look bB=none:=by rw[dF.o.1];exact NJ fun x h=>dB.o x h (by rw[ar.o.2.2.2.1] at h;exact h)
    have ap:=ar.o.1;rw[bo] at ap;simp only at ap
    by_cases e1:af=0
    .
     subst e1;have e3:pk.free=[]:=hD ar.o.2.2.2.2.1;rw[e3] at ap;obtain⟨w5,W⟩:=nM (wr.setCell ⟨c+1,3,gG⟩ (hA gL));have ai: ∀b,b≠c+1->w5.heap[b]?=wr.heap[b]?:=fun b d=>by rw[<-W];exact gZ _ ⟨c+1,3,gG⟩ _ _ d
     have br:w5.heap.size=wr.heap.size:=by rw[<-W];simp
     have bb:hg w.heap.size w w5:=by rw[<-W];exact iT (iq C.o.2.2.2.2.2.2.2.1 L) oM
     have ao:Bx w5 (c+1) #[ht M i D, ht U 0 G, ht H B J, hA gL] 174:=by rw[<-W];simpa using (C.o.2.1.gD L).set 3 (hA gL)
     have X:Hid (Bx w5 c #[ht po E pc, ht t k y, gE ha V] 95/\Bx w5 (c+1) #[ht M i D, ht U 0 G, ht H B J, hA gL] 174/\Bx w5 (c+1+1) #[ht gG 0 0, ht gG 0 0, gE ha 0] 95/\
       Bx w5 (c+1+1+1) #[ht gG 0 0, ht gG 0 0, ht gG 0 0, hA gH] 174/\hg w.heap.size w w5/\
       ∀A,hg w.heap.size w A->(∀b,b≠c+1+1->b≠c+1+1+1->A.heap[b]?=w5.heap[b]?)->A.heap.size=w5.heap.size->dc (.returned (.tuple #[hE #[ht po E pc, ht t k y, gE ha V], hE #[ht M i D, ht U 0 G, ht H B J, hA gL]])) A):=
      gF ⟨(ai _ oM).trans (C.o.1.gD L),ao,(ai _ oM).trans (C.o.2.2.1.gD L),(ai _ oM).trans (C.o.2.2.2.1.gD L),bb,fun A b5 bN cL=>by obtain⟨cU,ci⟩:=dA.o w5 A (fun b Y _ ag=>(ai b ag).trans (L.block b Y)) (by rw[br];exact L.size) bN cL;rw[<-c9.o];simp only[hl,if_false];rw[ap];obtain⟨-,-,-,au,a2,aV,aT,-⟩:=ar.o;refine⟨b5, .mk n.ps KS V,pk,gL,po,pc,t,y,M,D,U,G,H,J,by unfold rU;rw[aT,au,a2,aV],rfl,by rw[aT];exact cU V,ci⟩⟩
     have dH:=gF W;clear W ai br bb ao bo ap L cV e3;go_upto_region 19 with fail
     rw[dH.o];clear q s bC f l bD;obtain⟨N,aH⟩:=nM ((((w5.setCell ⟨c+1+1,0,gG⟩ (ht po E pc)).setCell ⟨c+1+1,1,gG⟩ (ht t k y)).setCell ⟨c+1+1,2,gG⟩ (gE ha V)).drew);obtain⟨ae,aI⟩:=nM ((((N.setCell ⟨c+1+1+1,0,gG⟩ (ht M i D)).setCell ⟨c+1+1+1,1,gG⟩ (ht U 0 G)).setCell ⟨c+1+1+1,2,gG⟩ (ht H B J)).setCell ⟨c+1+1+1,3,gG⟩ (hA gL));have F:Hid (Bx N c #[ht po E pc, ht t k y, gE ha V] 95/\Bx N (c+1) #[ht M i D, ht U 0 G, ht H B J, hA gL] 174/\Bx N (c+1+1) #[ht po E pc, ht t k y, gE ha V] 95/\Bx N (c+1+1+1) #[ht gG 0 0, ht gG 0 0, ht gG 0 0, hA gH] 174/\hg w.heap.size w N/\
       (∀b,b≠c+1+1->N.heap[b]?=w5.heap[b]?)/\N.heap.size=w5.heap.size):=by
      obtain⟨ah,ao,aM,am,aN,-⟩:=X.o;have e:=mQ aM (ht po E pc) (ht t k y) (gE ha V) aN (by have:=aQ.o;omega);rw[<-aH];exact gF ⟨Bx.drew (show Bx _ c _ _ from (e.same c oM).trans ah),Bx.drew (show Bx _ (c+1) _ _ from (e.same (c+1) oM).trans ao),e.box.drew,Bx.drew (show Bx _ (c+1+1+1) _ _ from (e.same (c+1+1+1) oM).trans am),e.below.drew,e.same,e.size⟩
     have Z:Hid (Bx ae (c+1+1) #[ht po E pc, ht t k y, gE ha V] 95/\Bx ae (c+1+1+1) #[ht M i D, ht U 0 G, ht H B J, hA gL] 174/\hg w.heap.size w ae/\(∀b,b≠c+1+1->b≠c+1+1+1->ae.heap[b]?=w5.heap[b]?)/\ae.heap.size=w5.heap.size):=by obtain⟨ah,ao,aM,am,aN,cs,ct⟩:=F.o;have e:=qX am (ht M i D) (ht U 0 G) (ht H B J) (hA gL) aN (by have:=aQ.o;omega);rw[<-aI];exact gF ⟨(e.same (c+1+1) oM).trans aM,e.box,e.below,fun b Y ag=>(e.same b ag).trans (cs b Y),e.size.trans ct⟩
     have aA:=gF aH;have cf:=gF aI;clear aH aI;obtain⟨q,s⟩:=X.o.1.c2;obtain⟨f,l⟩:=X.o.2.1.c2;obtain⟨aB,aJ,aC⟩:=X.o.2.2.1.c3;obtain⟨O,R,P⟩:=X.o.2.2.2.1.c3;refine qm #[gH,gH,gH,gH] 4 oP oO rfl ?_;refine hj (rs:=[0,1]) oP oC ?_;refine gI rfl (fun K hK=>?_) (gI rfl (fun K hK=>?_) hf);focus
      go_simp;refine hK _ _ ?_;clear hK K;simp only[gJ,hd];refine hj (rs:=[1,2]) oP oC ?_;refine gI rfl (fun K hK=>?_) (gI rfl (fun K hK=>?_) hf);focus go_simp;refine hK _ _ ?_;clear hK K;simp only[gU];refine iG 2 fun K hK=>?_;go_simp;refine hK _ _ ?_;clear hK K;simp only[gU];rw[aA.o];clear q s f l aB aJ aC O R P;obtain⟨q,s⟩:=F.o.1.c2;obtain⟨f,l⟩:=F.o.2.1.c2;obtain⟨O,R,P⟩:=F.o.2.2.2.1.c3
      rotate_left;focus go_simp;refine hK _ _ ?_;clear hK K;simp only[gU];rw[aA.o];clear q s f l aB aJ aC O R P;obtain⟨q,s⟩:=F.o.1.c2;obtain⟨f,l⟩:=F.o.2.1.c2;obtain⟨O,R,P⟩:=F.o.2.2.2.1.c3;refine iG 1 fun K hK=>?_;go_simp;refine hK _ _ ?_;clear hK K;simp only[gU]
     rotate_left 2;focus go_simp;refine hK _ _ ?_;clear hK K;simp only[gU];refine iG 0 fun K hK=>?_;go_simp;refine hK _ _ ?_;clear hK K;simp only[gJ,hd];refine iG 2 fun K hK=>?_;go_simp;refine hK _ _ ?_;clear hK K;simp only[gU];rw[aA.o];clear q s f l aB aJ aC O R P;obtain⟨q,s⟩:=F.o.1.c2;obtain⟨f,l⟩:=F.o.2.1.c2;obtain⟨O,R,P⟩:=F.o.2.2.2.1.c3
     all_goals refine iG 3 fun K hK=>?_;go_simp;refine hK _ _ ?_;clear hK K;simp only[gU];refine kS ?_;rw[cf.o];clear q s f l O R P;go_wp2;have cg:=Z.o.1.cell;have ch:=Z.o.2.1.cell;refine hG (v:= .tuple #[hE #[ht po E pc, ht t k y, gE ha V], hE #[ht M i D, ht U 0 G, ht H B J, hA gL]]) (by simp[results,hz,go_sem,cg,ch]) rfl ?_;exact X.o.2.2.2.2.2 _ Z.o.2.2.1 Z.o.2.2.2.1 Z.o.2.2.2.2
    have gt:((af:Int)==0)=false:=oN
    obtain⟨g,r,b'⟩: ∃g r,pk.free=g::r:=by
     cases f7:pk.free with
     | nil=>have:=ar.o.2.2.2.2.1;rw[f7] at this;exact absurd this.symm e1
     | cons g r=>exact⟨g,r,rfl⟩
    rw[b'] at ap;obtain⟨aj,cB⟩:=nM r.length;obtain rfl:af=aj+1:=by have:=ar.o.2.2.2.2.1;rw[b',j1] at this;omega
    have b7:=(C.o.2.2.2.2.2.1).keep C.o.2.2.2.2.2.2.1 L;have c2:=b7.fs;rw[ar.o.2.2.2.2.1] at c2;have f4:=(ox c2).1;obtain⟨ay,bk,f6,dZ,dV⟩:=b7.fr 0 (by rw[b'];simp);have f8:wr.cell? ⟨ay,bk,gG⟩=gP (gE ha g):=by rw[Nat.add_zero] at dZ;rw[dZ];simp[b']
    clear dZ;subst f6;have e6:=C.o.2.2.2.2.2.2.1 ay dV;have dl:ay≠c/\ay≠c+1:=by have:=C.o.2.2.2.2.2.2.2.2;rcases dV with h|h;have:=ab ay h;omega;omega
    have gu:=dl.1;have ga:=dl.2;have gv:ay<wr.heap.size:=iU e6 L.size;have fS:Hid (pk.free=g::r/\r.length=aj/\l7 look n p=gP (.mk n.ps KS g,⟨r,pk.ws++[⟨g,bs bB⟩]⟩)):=gF ⟨b',cB,ap⟩;have gi:=ar.o.2.1;rw[ar.o.2.2.2.2.2.1] at gi
    by_cases e2:G=1
    case' pos=>
     subst e2;have dX:aj=0:=oM
     go_upto_region 22 with fail
     obtain⟨w5,W⟩:=nM ((wr.setCell ⟨c,2,gG⟩ (gE ha g)).setCell ⟨c+1,1,gG⟩ (ht (gP ⟨ay,bk,gG⟩) 0 0));rw[W];obtain⟨ak,bq,bG⟩: ∃ak bq,gM ak aj bq= ht (gP ⟨ay,bk,gG⟩) 0 0:=⟨gP ⟨ay,bk,gG⟩,0,by rw[dX]⟩;have ai: ∀b,b≠c->b≠c+1->w5.heap[b]?=wr.heap[b]?:=fun b Y ag=>by rw[<-W];exact(gZ _ ⟨c+1,1,gG⟩ _ _ ag).trans (gZ _ ⟨c,2,gG⟩ _ _ Y)
     have br:w5.heap.size=wr.heap.size:=by rw[<-W];simp
     have bb:hg w.heap.size w w5:=by rw[<-W];exact iT (iT (iq C.o.2.2.2.2.2.2.2.1 L) oM) oM
     have ah:Bx w5 c #[ht po E pc, ht t k y, gE ha g] 95:=by rw[<-W];refine Bx.jc ?_ (show c≠c+1 by omega) _;simpa using (C.o.1.gD L).set 2 (gE ha g)
     have ao:Bx w5 (c+1) #[ht M i D, ht ak aj bq, ht H B J, hA gH] 174:=by rw[<-W,bG];simpa using ((C.o.2.1.gD L).jc (show c+1≠c by omega) (a:=⟨c,2,gG⟩) (gE ha g)).set 1 (ht (gP ⟨ay,bk,gG⟩) 0 0)
     have cz:jk ak aj bq:=by simp only[hv] at bG;obtain⟨rfl,Y,rfl⟩:=bG;rw[Y];exact .inr ⟨_,rfl,hr _,hL _⟩
     have cx: ∀(T:Nat->Prop) (ad:World),gO T ad (gP ⟨ay,bk,gG⟩) ((g::r).map (.int .i64))->gO T ad ak (r.map (.int .i64)):=fun T ad _=>by have:r=[]:=hD (by rw[cB,dX]);rw[this];exact gO.nil _ _ _
     clear dX
    case' neg=>
     go_upto_region 22 with fail
     obtain⟨w5,W⟩:=nM ((wr.setCell ⟨c,2,gG⟩ (gE ha g)).setCell ⟨c+1,1,gG⟩ (ht (gP ⟨ay,bk+1,gG⟩) aj (G - 1)));rw[W];obtain⟨ak,bq,bG⟩: ∃ak bq,gM ak aj bq= ht (gP ⟨ay,bk+1,gG⟩) aj (G - 1):=⟨gP ⟨ay,bk+1,gG⟩,G - 1,rfl⟩;have ai: ∀b,b≠c->b≠c+1->w5.heap[b]?=wr.heap[b]?:=fun b Y ag=>by rw[<-W];exact(gZ _ ⟨c+1,1,gG⟩ _ _ ag).trans (gZ _ ⟨c,2,gG⟩ _ _ Y)
     have br:w5.heap.size=wr.heap.size:=by rw[<-W];simp
     have bb:hg w.heap.size w w5:=by rw[<-W];exact iT (iT (iq C.o.2.2.2.2.2.2.2.1 L) oM) oM
     have ah:Bx w5 c #[ht po E pc, ht t k y, gE ha g] 95:=by rw[<-W];refine Bx.jc ?_ (show c≠c+1 by omega) _;simpa using (C.o.1.gD L).set 2 (gE ha g)
     have ao:Bx w5 (c+1) #[ht M i D, ht ak aj bq, ht H B J, hA gH] 174:=by rw[<-W,bG];simpa using ((C.o.2.1.gD L).jc (show c+1≠c by omega) (a:=⟨c,2,gG⟩) (gE ha g)).set 1 (ht (gP ⟨ay,bk+1,gG⟩) aj (G - 1))
     have cz:jk ak aj bq:=by simp only[hv] at bG;obtain⟨rfl,-,rfl⟩:=bG;exact .inr ⟨_,rfl,oM,by have:=vt c2;omega⟩
     have cx: ∀(T:Nat->Prop) (ad:World),gO T ad (gP ⟨ay,bk,gG⟩) ((g::r).map (.int .i64))->gO T ad ak (r.map (.int .i64)):=fun T ad h=>by simp only[hv] at bG;obtain⟨rfl,-,rfl⟩:=bG;exact h.s7 1
     clear e2
    all_goals
     have fR:=gF (gK ah (gK ao (gK ai (gK br (gK bb (gK cz (gK cx (gK b7 (gK L c2)))))))));have fM:Bx w5 (c+1+1) #[ht gG 0 0, ht gG 0 0, gE ha 0] 95:=(ai _ oM oM).trans (C.o.2.2.1.gD L);have fN:Bx w5 (c+1+1+1) #[ht gG 0 0, ht gG 0 0, ht gG 0 0, hA gH] 174:=(ai _ oM oM).trans (C.o.2.2.2.1.gD L);have eE:=gF (gK fM fN);have eC:Hid ((∀b,(S b\/(W0.heap.size<=b/\b<w1.heap.size))->b<w5.heap.size)/\gO (fun b=>S b\/(W0.heap.size<=b/\b<w1.heap.size)) w5 H (mi pk.ws)):=gF (by
      have eO:=C.o.2.2.2.2.2.2.2.2;have b8:=C.o.2.2.2.2.2.2.1;refine⟨fun b d=>by have:=b8 b d;have:=L.size;omega,b7.wr.same' fun b d=>ai b ?_ ?_⟩;.
       rcases d with h|h;. have:=ab b h;omega
       . omega
      .
       rcases d with h|h;. have:=ab b h;omega
       . omega)
     have fV:Hid (jk H B J):=gF (by have:=b7.ws;rw[ar.o.2.2.2.2.2.1] at this;exact this);clear q s bC f l bD;obtain⟨q,s⟩:=ah.c2;obtain⟨f,l,bD⟩:=ao.c3;have dJ:=jv.cells w5;clear W bG ah ao ai br bb cz cx b7 L c2 fM fN b' cB ap bo f8 dV e6 dl f4;obtain⟨fz,e8,fj,fk,fl⟩:=info_parts tz;have bW:=gF (gK e8 (gK fj (gK fk fl)));clear e8 fj fk fl;refine Ch 10 2 #[gL,gL,gL,gL,gL,gL,gL,gL,gL,gL,gH,gH] (vB 8 9) (qY w5.heap.size 80 B (mi pk.ws) [gE ha g, .string cc] 8 9 7 (hE #[gE ha g, .string cc])) oP oO oO oP ?_;simp only[hq,hy];refine l4.mC _ oO oO ?_ ?_;. intro aW cl;unfold ix;go_simp;exact Gw aW (uB (.inl oP) (.inl oP) (.inr fun r h=>Bx.alloc h _) oP)
     intro ah;simp only[hh,gU,qd];refine l4.block 2 3 oO oP oP ?_;simp only[jC];repeat (go_big_quiet_step (fail))
     refine hn ?_;refine l4.mC _ oO oO ?_ ?_;intro aW cl;have eN:aW.w.ownsRow w5.heap.size 80 2 (.slice (gP ⟨ah.lo,0,gG⟩) 0 0) 0 []:=(cl 0 oP).get rfl rfl;exact xr (.tmp 83) (.tmp 85) 23 rfl 80 fz _ 2 24 hN bW.o.1 bW.o.2.1 bW.o.2.2.1 bW.o.2.2.2 rfl oF aW (.slice (gP ⟨ah.lo,0,gG⟩) 0 0) 0 [] rfl eN H B J (mi pk.ws) rfl fV.o.nil (by rw[wM,ar.o.2.2.2.2.2.1]) eC.o.1 eC.o.2 (yE _) (by unfold hM;omega) oM fun gr e5=>uB (.inl oP) (.inl oP) (.inr fun r h=>NP eN e5 h) oP;intro am;simp only[hh,gU,kf];refine l4.block 3 7 oO oP oP ?_;simp only[jC];repeat (go_big_quiet_step (fail))
     refine hn ?_;refine l4.mC _ oO oO ?_ ?_;intro aW cl;exact Gy (by go_simp);intro gA;simp only[hh,gU,iw];refine l4.mC _ oO oO ?_ ?_;. intro aW cl;unfold ix;go_simp;exact Gx aW (uB (.inr fun r h=>World.ownsRow.alloc h _) (.inr fun r h=>World.ownsRow.alloc h _) (.inl oP) oP)
     intro bu;simp only[hh,gU,p8];refine l4.mC _ oO oO ?_ ?_;. intro aW cl;have b2:aW.w.ownsRow w5.heap.size 80 2 (.slice (jK (am.x 0)) (0+B) (j3 (am.x 0))) (0+B) ([]++mi pk.ws):=(cl 3 oP).get rfl rfl;have f2:Bx aW.w bu.lo #[.int .i64 g, .string cc] 80:=(cl 8 oP).get rfl rfl;exact Ci (.tmp 86) (.tmp 91) 23 rfl 80 fz _ 2 24 hN bW.o.1 bW.o.2.1 bW.o.2.2.1 bW.o.2.2.2 rfl oF aW (.slice (jK (am.x 0)) (0+B) (j3 (am.x 0))) (0+B) ([]++mi pk.ws) rfl b2 (gP ⟨bu.lo,0,gG⟩) 1 1 [.int .i64 g, .string cc] rfl (by intro I;cases I) rfl (gO.bx f2) (by intro u ft;simp at ft;rcases ft with rfl|rfl<;>rfl) (by unfold hM;omega) oM fun gr e5=>uB (.inl oP) (.inl oP) (.inl oP) oP
     intro a6;simp only[hh,gU,kf];refine l4.done ?_;intro cu aF;have dL:cu.ownsRow w5.heap.size 80 2 (ht (jK (a6.x 0)) (0+B+1) (j3 (a6.x 0))) (0+B+1) ([]++mi pk.ws++[gE ha g, .string cc]):=aF.get 9 oO rfl rfl;have b9:=aF.below;obtain⟨bd,ba⟩:=nM (jK (a6.x 0));obtain⟨a',aX⟩:=nM (j3 (a6.x 0));rw[ba,aX,hJ,List.nil_append] at dL;rw[ba,aX,hJ];clear ba aX aF q s f l bD dJ;obtain⟨cM,fE,ai,br,bb,cz,cx,b7,L,-⟩:=fR.o;have ej:=fE.gD b9;have ei:=cM.gD b9;obtain⟨w7,bI⟩:=nM (cu.setCell ⟨c+1,2,gG⟩ (ht bd (B+1) a'));have cH: ∀b,b≠c+1->w7.heap[b]?=cu.heap[b]?:=fun b d=>by rw[<-bI];exact gZ _ ⟨c+1,2,gG⟩ _ _ d
     have fx:w7.heap.size=cu.heap.size:=by rw[<-bI];simp
     have gl:=b9.size;have gk:=L.size;have eO:=C.o.2.2.2.2.2.2.2.2;have eT:hg w.heap.size w w7:=by rw[<-bI];exact iT (iq bb b9) oM
     have fF:Bx w7 (c+1) #[ht M i D, ht ak aj bq, ht bd (B+1) a', hA gH] 174:=by rw[<-bI];simpa using ej.set 2 (ht bd (B+1) a')
     have X:Hid (Bx w7 c #[ht po E pc, ht t k y, gE ha g] 95/\Bx w7 (c+1) #[ht M i D, ht ak aj bq, ht bd (B+1) a', hA gH] 174/\Bx w7 (c+1+1) #[ht gG 0 0, ht gG 0 0, gE ha 0] 95/\
       Bx w7 (c+1+1+1) #[ht gG 0 0, ht gG 0 0, ht gG 0 0, hA gH] 174/\hg w.heap.size w w7/\
       ∀A,hg w.heap.size w A->(∀b,b≠c+1+1->b≠c+1+1+1->A.heap[b]?=w7.heap[b]?)->A.heap.size=w7.heap.size->dc (.returned (.tuple #[hE #[ht po E pc, ht t k y, gE ha g], hE #[ht M i D, ht ak aj bq, ht bd (B+1) a', hA gH]])) A):=
      gF ⟨(cH c oM).trans ei,fF,(cH _ oM).trans (eE.o.1.gD b9),(cH _ oM).trans (eE.o.2.gD b9),eT,fun A b5 bN cL=>by
       obtain⟨cU,ci⟩:=dA.o w7 A (fun b Y ag b2=>(cH b b2).trans ((b9.block b oM).trans ((ai b ag b2).trans (L.block b Y)))) oM bN cL;obtain⟨b',cB,ap⟩:=fS.o;obtain⟨-,-,-,au,a2,aV,aT,-⟩:=ar.o;rw[<-c9.o];simp only[hl,if_false];rw[ap];have e4:=ci.fr;rw[b'] at e4;obtain⟨gm,c',f0,gh,gg,-⟩:=nC dL;obtain⟨rfl,rfl⟩:bd=gm/\a'=c':=by simpa using f0
       have cK:(pk.ws++[(⟨g,bs bB⟩:PW)]).length=B+1:=by rw[iI,aV];rfl
       refine⟨b5, .mk n.ps KS g,⟨r,pk.ws++[⟨g,bs bB⟩]⟩,gH,po,pc,t,y,M,D,ak,bq,bd,a',by unfold rU;simp only[cK];rw[aT,au,cB],⟨rfl,rfl,rfl⟩,by rw[aT];exact cU g,⟨ci.os,ci.on,by rw[cB];exact cz,cx _ _ e4,by simp only[cK];exact gh,?_⟩⟩;have f9:mi (pk.ws++[(⟨g,bs bB⟩:PW)])=mi pk.ws++[gE ha g, .string cc]:=by rw[<-dG.o];simp[mi]
       simp only[f9];exact(gg.same' fun b d=>(bN b oM oM).trans (cH b oM)).mono fun b d=> .inr ⟨oM,oM⟩⟩
     have fZ:=gF bI;obtain⟨q,s⟩:=ei.c2;obtain⟨f,l,bD⟩:=ej.c3;clear bI cH fx gl gk eO eT fF cM fE ei ej ai br bb cz cx b7 L dL b9;refine iG 10 fun K hK=>?_;go_simp;refine hK _ _ ?_;clear hK K;refine iG 11 fun K hK=>?_;go_simp;refine hK _ _ ?_;clear hK K;rw[fZ.o];refine kS ?_;clear q s f l bD;go_upto_region 23 with fail
     obtain⟨N,aH⟩:=nM ((((w7.setCell ⟨c+1+1,0,gG⟩ (ht po E pc)).setCell ⟨c+1+1,1,gG⟩ (ht t k y)).setCell ⟨c+1+1,2,gG⟩ (gE ha g)).drew);obtain⟨ae,aI⟩:=nM ((((N.setCell ⟨c+1+1+1,0,gG⟩ (ht M i D)).setCell ⟨c+1+1+1,1,gG⟩ (ht ak aj bq)).setCell ⟨c+1+1+1,2,gG⟩ (ht bd (B+1) a')).setCell ⟨c+1+1+1,3,gG⟩ (hA gH));have F:Hid (Bx N c #[ht po E pc, ht t k y, gE ha g] 95/\Bx N (c+1) #[ht M i D, ht ak aj bq, ht bd (B+1) a', hA gH] 174/\Bx N (c+1+1) #[ht po E pc, ht t k y, gE ha g] 95/\Bx N (c+1+1+1) #[ht gG 0 0, ht gG 0 0, ht gG 0 0, hA gH] 174/\hg w.heap.size w N/\
       (∀b,b≠c+1+1->N.heap[b]?=w7.heap[b]?)/\N.heap.size=w7.heap.size):=by
      obtain⟨ah,ao,aM,am,aN,-⟩:=X.o;have e:=mQ aM (ht po E pc) (ht t k y) (gE ha g) aN (by have:=aQ.o;omega);rw[<-aH];exact gF ⟨Bx.drew (show Bx _ c _ _ from (e.same c oM).trans ah),Bx.drew (show Bx _ (c+1) _ _ from (e.same (c+1) oM).trans ao),e.box.drew,Bx.drew (show Bx _ (c+1+1+1) _ _ from (e.same (c+1+1+1) oM).trans am),e.below.drew,e.same,e.size⟩
     have Z:Hid (Bx ae (c+1+1) #[ht po E pc, ht t k y, gE ha g] 95/\Bx ae (c+1+1+1) #[ht M i D, ht ak aj bq, ht bd (B+1) a', hA gH] 174/\hg w.heap.size w ae/\(∀b,b≠c+1+1->b≠c+1+1+1->ae.heap[b]?=w7.heap[b]?)/\ae.heap.size=w7.heap.size):=by obtain⟨ah,ao,aM,am,aN,cs,ct⟩:=F.o;have e:=qX am (ht M i D) (ht ak aj bq) (ht bd (B+1) a') (hA gH) aN (by have:=aQ.o;omega);rw[<-aI];exact gF ⟨(e.same (c+1+1) oM).trans aM,e.box,e.below,fun b Y ag=>(e.same b ag).trans (cs b Y),e.size.trans ct⟩
     have aA:=gF aH;have cf:=gF aI;clear aH aI;obtain⟨q,s⟩:=X.o.1.c2;obtain⟨f,l⟩:=X.o.2.1.c2;obtain⟨aB,aJ,aC⟩:=X.o.2.2.1.c3;obtain⟨O,R,P⟩:=X.o.2.2.2.1.c3;refine qm #[gH,gH,gH,gH] 4 oP oO rfl ?_;refine hj (rs:=[0,1]) oP oC ?_;refine gI rfl (fun K hK=>?_) (gI rfl (fun K hK=>?_) hf);focus
      go_simp;refine hK _ _ ?_;clear hK K;simp only[gJ,hd];refine hj (rs:=[1,2]) oP oC ?_;refine gI rfl (fun K hK=>?_) (gI rfl (fun K hK=>?_) hf);focus go_simp;refine hK _ _ ?_;clear hK K;simp only[gU];refine iG 2 fun K hK=>?_;go_simp;refine hK _ _ ?_;clear hK K;simp only[gU];rw[aA.o];clear q s f l aB aJ aC O R P;obtain⟨q,s⟩:=F.o.1.c2;obtain⟨f,l⟩:=F.o.2.1.c2;obtain⟨O,R,P⟩:=F.o.2.2.2.1.c3
      rotate_left;focus go_simp;refine hK _ _ ?_;clear hK K;simp only[gU];rw[aA.o];clear q s f l aB aJ aC O R P;obtain⟨q,s⟩:=F.o.1.c2;obtain⟨f,l⟩:=F.o.2.1.c2;obtain⟨O,R,P⟩:=F.o.2.2.2.1.c3;refine iG 1 fun K hK=>?_;go_simp;refine hK _ _ ?_;clear hK K;simp only[gU]
     rotate_left 2;focus go_simp;refine hK _ _ ?_;clear hK K;simp only[gU];refine iG 0 fun K hK=>?_;go_simp;refine hK _ _ ?_;clear hK K;simp only[gJ,hd];refine iG 2 fun K hK=>?_;go_simp;refine hK _ _ ?_;clear hK K;simp only[gU];rw[aA.o];clear q s f l aB aJ aC O R P;obtain⟨q,s⟩:=F.o.1.c2;obtain⟨f,l⟩:=F.o.2.1.c2;obtain⟨O,R,P⟩:=F.o.2.2.2.1.c3
     all_goals refine iG 3 fun K hK=>?_;go_simp;refine hK _ _ ?_;clear hK K;simp only[gU];refine kS ?_;rw[cf.o];clear q s f l O R P;go_wp2;have cg:=Z.o.1.cell;have ch:=Z.o.2.1.cell;refine hG (v:= .tuple #[hE #[ht po E pc, ht t k y, gE ha g], hE #[ht M i D, ht ak aj bq, ht bd (B+1) a', hA gH]]) (by simp[results,hz,go_sem,cg,ch]) rfl ?_;exact X.o.2.2.2.2.2 _ Z.o.2.2.1 Z.o.2.2.2.1 Z.o.2.2.2.2
theorem NR (l:List Nd) (k h:Nat) (o:Option Addr) (c:Nat) (w:World) {S:Nat->Prop} (e: ∀b,S b->b<w.heap.size) (az:jk o l.length c) (aQ:jw S w o l) (bI:k<l.length) (bi:2<=l.length) (dw:l.length<=8)
  (b6: ∀(j:Nat) (bb:j<l.length),j≠k->Tm 2 4 h l[j]) (b0:Tm 1 3 h l[k]):
  Calls prog 182 #[ht o l.length c, gE ha k] w (oq S w (kK l k)):=by
 have dK:=(ox az).1;have ff:=ox az;obtain⟨v,U,eP,ev,c5,ex,rfl,eE,e8,e9,e',cA⟩:=aQ.get bI;have aX:=F6 l[k] eP c5 ev ex w (cA.c e);have aU:=e v eE;obtain⟨e7,cE⟩:=nM (oq S w (kK l k));rw[cE];have dn:=gF cE;clear cE;unfold il at aX
 by_cases aY:l[k].iX=gH
 . have ax:=BA bI aY;rw[aY] at aX;obtain⟨n,aV⟩:=nM l.length;rw[aV] at bI dK az bi dw |-;generalize l[k].ps.length=G at *;generalize l[k].gC.length=H at *;generalize l[k].page=W at *;have cq:=gF aX;have co:=gF ax;have ah:=gF aQ;have aN:=gF aV;clear b6 b0 cA aX ax aQ aY aV;go_enter func182,ntmps182;go_wp2_with fail;refine cq.o.mono ?_;rintro L eb ⟨rfl,r⟩;go_wp2;rw[<-dn.o,co.o];exact⟨r,gP ⟨v,U,gG⟩,c,by rw[aN.o];rfl,by rw[aN.o];exact az,(ah.o.keep e r).up fun b h=> .inl h⟩
 simp only[Bool.not_eq_false] at aY;have ax:=zm bI bi aY;rw[aY] at aX;obtain⟨i,aw⟩:=nM (k - 1);simp only[aw] at ax;have cI:i<l.length:=oM
 have cJ:i+1<l.length:=oM
 have cb:Tm 1 3 h l[i]:=by
  by_cases L:i=k
  subst L;exact b0;exact(b6 i cI L).mono oM oM
 have cc:Tm 1 3 h l[i+1]:=by
  by_cases L:i+1=k
  subst L;exact b0;exact(b6 (i+1) cJ L).mono oM oM
 obtain⟨cw,j8,ad,X,af,Z,du,-,c',da,db,cC⟩:=aQ.get cI;obtain⟨rfl,rfl⟩:v=cw/\U=j8:=by simpa using du
 obtain⟨cw,j8,ae,Y,ag,aa,dv,-,di,dj,dk,cD⟩:=aQ.get cJ;obtain⟨rfl,rfl⟩:v=cw/\U=j8:=by simpa using dv
 obtain⟨x,dV⟩:=nM (l[i]);obtain⟨y,dX⟩:=nM (l[i+1]);rw[dV] at c' da db cC cb ax;rw[dX] at di dj dk cD cc ax;obtain⟨n,aV⟩:=nM l.length;rw[aV] at bI dK az bi dw cI cJ |-;generalize l[k].ps.length=G at *;generalize l[k].gC.length=H at *;generalize l[k].page=W at *;have dW:=cb.bounds;have dY:=cc.bounds;obtain⟨dh,cS⟩:=nM x.ps.length;obtain⟨dg,cR⟩:=nM x.gC.length;obtain⟨df,cQ⟩:=nM x.page;obtain⟨cj,cV⟩:=nM y.ps.length;obtain⟨ci,cU⟩:=nM y.gC.length;obtain⟨ch,cT⟩:=nM y.page;have dG:il ad X af Z x=[ht ad dh X, ht af dg Z, gE ha df]:=by unfold il;rw[cS,cR,cQ]
 have dH:il ae Y ag aa y=[ht ae cj Y, ht ag ci aa, gE ha ch]:=by unfold il;rw[cV,cU,cT]
 rw[cS] at c';rw[cR] at da;rw[cQ] at db;rw[cV] at di;rw[cU] at dj;rw[cT] at dk;have cq:=gF aX;have co:=gF ax;have ah:=gF (gK aQ (gK cC cD));have aN:=gF aV;have s:=gF (gK cb (gK cc (gK dW dY)));have aq:=gF (gK dG dH);have aL:=gF (gK c' (gK da (gK db (gK di (gK dj dk)))));clear b6 b0 cA aX ax aQ aY aV cC cD cb cc dW dY dG dH dV dX cS cR cQ cV cU cT du dv;go_enter func182,ntmps182
 go_upto_if 24 with (refine cq.o.mono ?_;rintro L eb ⟨rfl,r⟩)
 go_cut [5] (fun eT t=>eT= gE ha (i:Int)/\t=eb)
 case first=>
  by_cases q:k=0
  .
   have a:((k:Int)==0)=true:=by simp[q]
   rw[a];go_wp2_with fail
   go_meet
   exact⟨by rw[<-aw,q];rfl,rfl⟩
  have a:((k:Int)==0)=false:=by simp[q]
  rw[a];go_wp2_with fail
  go_meet
  exact⟨by rw[<-aw,Int.ofNat_sub oM];rfl,rfl⟩
 case rest=>
 obtain⟨rfl,rfl⟩:=hcut;go_upto_region 6 with fail
 go_cut [6,7] (fun eU eW t=> ∃be aH,eU= .pointer (gP ⟨be,0,gG⟩)/\eW= .pointer (gP ⟨aH,0,gG⟩)/\Bx t be #[ht ad dh X, ht af dg Z, gE ha df] 95/\Bx t aH #[ht ae cj Y, ht ag ci aa, gE ha ch] 95/\be≠aH/\w.heap.size<=be/\w.heap.size<=aH/\hg w.heap.size w t)
 case first=>
  have fi:v<wc.heap.size:=iU aU r.size;have fy:=(r.cell aU).trans aL.o.1;have e0:=(r.cell aU).trans aL.o.2.1;have e1:=(r.cell aU).trans aL.o.2.2.1;have el:=(r.cell aU).trans aL.o.2.2.2.1;have fA:=(r.cell aU).trans aL.o.2.2.2.2.1;have fB:=(r.cell aU).trans aL.o.2.2.2.2.2;have eK:(0:Int)<=(i:Int):=oM
  have eL:(i:Int)<(n:Int):=oM
  have eM:(i:Int)+1<(n:Int):=oM
  have eN:IntKind.i64.wrap ((i:Int)+1)=(i:Int)+1:=IntWalk.i64_in _ oM;have fu:(0:Int)<=(i:Int)+1:=oM
  have fv:((i:Int)+1).toNat=i+1:=oM
  clear aL
  go_region_held3 (fun w'=>w'.cell? ⟨v,U+i * 3,gG⟩=gP (ht ad dh X)/\w'.cell? ⟨v,U+i * 3+1,gG⟩=gP (ht af dg Z)/\w'.cell? ⟨v,U+i * 3+2,gG⟩=gP (gE ha df)/\w'.cell? ⟨v,U+(i+1) * 3,gG⟩=gP (ht ae cj Y)/\w'.cell? ⟨v,U+(i+1) * 3+1,gG⟩=gP (ht ag ci aa)/\w'.cell? ⟨v,U+(i+1) * 3+2,gG⟩=gP (gE ha ch)) (go_keep) (fail)
  all_goals go_wp2_with fail
  all_goals go_meet
  all_goals first
   | exact⟨wc.heap.size+1,wc.heap.size,rfl,rfl,Bx.ir (wc.alloc _) _ _ _ oC,(Bx.new wc _ _).alloc _,oM,Nat.le_succ_of_le r.size,r.size,((r.alloc r.size _).alloc (jU r.size oC) _).drew⟩
   | exact⟨wc.heap.size,wc.heap.size+1,rfl,rfl,(Bx.new wc _ _).alloc _,Bx.ir (wc.alloc _) _ _ _ oC,oM,r.size,Nat.le_succ_of_le r.size,((r.alloc r.size _).alloc (jU r.size oC) _).drew⟩
 case rest=>
 obtain⟨be,aH,rfl,rfl,ce,cf,fd,fc,fe,aT⟩:=hcut;obtain⟨eZ,dS⟩:=nM wc;rw[dS] at ce cf aT |-;obtain⟨I,N⟩:=ce.c2;obtain⟨J,O⟩:=cf.c2;have bb:=Cl x y ad af X Z ae ag Y aa eZ (S:=S) (fun b a=>iU (e b a) aT.size) (ah.o.2.1.keep e aT) (ah.o.2.2.keep e aT) (by have:=s.o.2.2.1.1;omega) (by have:=s.o.2.2.2.1;omega) (by have:=s.o.2.2.1.2;omega) (by have:=s.o.2.2.2.2;omega);rw[aq.o.1,aq.o.2] at bb;obtain⟨bQ,dB⟩:=nM ((ig x y).ps.length);obtain⟨bR,ab⟩:=nM ((ig x y).gC.length);have cz: ∀cr b c cu,il cr b c cu (ig x y)=[ht cr bQ b, ht c bR cu, gE ha 0]:=fun cr b c cu=>by unfold il;rw[dB,ab];rfl
 unfold lv at bb;simp only[cz] at bb;have dp:=gF bb;have e5:=gF cz;clear bb cz dB ab;go_upto_region 8 with (first| (refine dp.o.mono ?_;rintro L aG ⟨bD,c0,cX,cZ,cY,rfl,dD⟩)|fail)
 obtain⟨w4,b7⟩:=nM (aG.alloc (hF #[ht c0 bQ cX, ht cZ bR cY, gE ha 0] 95));rw[b7];have bE:hg aG.heap.size aG w4:=by rw[<-b7];exact Below.one _ _
 have dc:Bx w4 aG.heap.size #[ht c0 bQ cX, ht cZ bR cY, gE ha 0] 95:=by rw[<-b7];exact Bx.new _ _ _
 have dy:=iq aT bD;have dz:=iq dy bE;have ed:=(ce.gD bD).gD bE;have eg:=(cf.gD bD).gD bE;have fz:aG.heap.size<w4.heap.size:=dc.lt;have dC:jw (fun b=>S b\/(w.heap.size<=b/\b<w4.heap.size)) w4 (gP ⟨aG.heap.size,0,gG⟩) [ig x y]:=by
  have fC:=aT.size;have el:=bD.size;refine s5 (c1:=[ht c0 bQ cX, ht cZ bR cY, gE ha 0]) ((gO.bx dc).mono fun b a=> .inr ⟨oM,oM⟩) ?_;exact dD.same (T:=fun b=>S b\/(w.heap.size<=b/\b<w4.heap.size)) (fun b a=>bE.block b (by
   rcases a with a|a;. have:=e b a;omega
   . exact a.2)) fun b a=>a.imp id fun a=>⟨oM,oM⟩
 have dr:=gF (Gp x ad af X Z);have ds:=gF (Gp y ae ag Y aa);rw[aq.o.1] at dr;rw[aq.o.2] at ds;have F:=gF (gK dC (gK dz (gK ed eg)));clear b7 bE dc dC dy dD bD ce cf I N J O dp dz ed eg
 go_cut [43] (fun eS t=>eS= hA (decide (0<k)&&x.jO)/\hg w4.heap.size w4 t)
 case first=>
  obtain⟨I,N⟩:=F.o.2.2.1.c2
  by_cases q:0<k
  .
   have dI:(0:Int)<(k:Int):=oM
   go_wp2_with (first| (refine(dr.o w4).mono ?_;rintro L w5 ⟨rfl,E⟩)|fail)
   go_meet
   exact⟨by simp[q],E⟩
  have dI: ¬(0:Int)<(k:Int):=oM
  go_wp2_with fail
  go_meet
  exact⟨by simp[q],hI _ _⟩
 case rest=>
 obtain⟨rfl,E⟩:=hcut;obtain⟨cs,ba⟩:=nM ((decide (0<k)&&x.jO));rw[ba];obtain⟨T,a9⟩:=nM (lu x y (decide (0<k)));obtain⟨w5,dT⟩:=nM wc;rw[dT] at E |-
 go_upto_if 43 with fail
 go_cut [8,9,10] (fun ca _ _ t=>(cs=gL/\ ∃R c2,ca= ht R T.length c2/\jk R T.length c2/\jw (fun b=>S b\/(w.heap.size<=b/\b<t.heap.size)) t R T/\hg w.heap.size w t)\/(cs=gH/\ca= ht (gP ⟨aG.heap.size,0,gG⟩) 1 1/\t=w5))
 case first=>
  have ee:=F.o.2.2.1.gD E;have a4:=F.o.2.2.2.gD E;have bV:=iq F.o.2.1 E;obtain⟨I,N⟩:=ee.c2;obtain⟨J,O⟩:=a4.c2;have bh:=jv.cells w5;cases cs with
  | true=>
   have q:0<k/\x.jO=true:=by simpa using ba
   have ac:T=[(jo x (x.size - 1)).1,ig (jo x (x.size - 1)).2 y]:=by rw[<-a9,show decide (0<k)=gL by simp[q.1]];exact NA s.o.1 s.o.2.1 q.2
   obtain⟨c1,bF⟩:=nM ((jo x (x.size - 1)).1);obtain⟨c2,bG⟩:=nM ((jo x (x.size - 1)).2);have aW:=s.o.1.ou q.2;have al:=Gu x (x.size - 1);have b1:=Gt x (x.size - 1);have B:=fun bS (a:hg w.heap.size w bS)=>Gs x (x.size - 1) ad af X Z bS (S:=S) (fun b h=>iU (e b h) a.size) (ah.o.2.1.keep e a) aW.1 aW.2.1;have b5:=fun bS=>Gn x ad af X Z bS (by have:=s.o.2.2.1.1;omega) (by have:=s.o.2.2.1.2;omega);rw[bF,bG] at ac al B b1;simp only[aq.o.1] at B b5;have eH:x.size<=1000:=by have:=s.o.2.2.1;unfold Nd.size;omega
   obtain⟨c8,dQ⟩:=nM x.size;rw[dQ] at eH aW B b5;obtain⟨c7,dP⟩:=nM (c8 - 1);rw[dP] at B;have fn:(c8:Int) - 1=(c7:Int):=oM
   have bf:Hid (c2.ps.length<=1000/\c2.gC.length<=1000):=gF (by have:=s.o.2.2.1;omega);have cn:=gF ac;have ay:=vw al.1;have M:=vw al.2;obtain⟨G,bz⟩:=nM c1.ps.length;obtain⟨H,bA⟩:=nM c1.gC.length;obtain⟨W,bB⟩:=nM c2.ps.length;obtain⟨ar,bC⟩:=nM c2.gC.length;simp only[bz,bA] at ay;simp only[bB,bC] at M;have cy: ∀y:jv w5,hg w.heap.size w y.w:=fun y=>iq bV y.h;have ai:=gF (gK B (gK b5 (gK ay M)));have dm:=gF (gK cy (fun(y:jv w5) b (h:S b)=>iU (e b h) (cy y).size));clear B b5 ay M cy aW al q bF bG bz bA bB bC dQ dP;go_upto_region 9 with fail
   refine sf 10 7 2 #[gL,gL,gL,gL,gL,gL,gL,gH,gL,gL,gH,gH] #[gL,gL,gL,gL,gL,gL,gL,gL,gL,gL,gH,gH] (fun i=>if i=2 then gP (iw (gE ha (c8:Int))) else if i=4 then gP (td S c1 c2 G H W ar) else if i=8 then gP (pK #[ht gG 0 0, ht gG 0 0, gE ha 0] 95) else if i=9 then gP (pK #[ht gG 0 0, ht gG 0 0, gE ha 0] 95) else gG) _ oP rfl oO oO oP oO rfl (fun _ _ _ _ h=>h) (sg _ _ rfl) ?_;simp only[hq,hy];refine LW.b 2 2 ?_;simp only[jC];repeat (go_big_quiet_step (fail))
   refine hn ?_;refine LW.z ?_ ?_;. intro cg _;unfold ix;go_simp;exact qF (ai.o.2.1 _)
   intro eQ;simp only[hh,gU,iw];refine LW.b 1 4 ?_;simp only[jC];repeat (go_big_quiet_step (fail))
   refine hn ?_;refine LW.z ?_ ?_;. intro cg _;unfold ix;go_simp;exact yl (dm.o.2 _) ai.o.2.2.1 ai.o.2.2.2 (ai.o.1 _ (dm.o.1 _))
   intro d;simp only[hh,gU,td];refine LW.b 3 8 ?_;simp only[jC];repeat (go_big_quiet_step (fail))
   refine hn ?_;refine LW.z ?_ ?_;rotate_left;intro aA;simp only[hh,gU,pK];refine LW.z ?_ ?_;rotate_left;intro aB;simp only[hh,gU];refine LW.done ?_;intro C m;have cx:jf (fun b=>S b\/(d.lo<=b/\b<d.hi)) C [ht (jK (d.x 0)) G (j3 (d.x 0)), ht (jK (d.x 1)) H (j3 (d.x 1)), gE ha 0] c1/\jf (fun b=>S b\/(d.lo<=b/\b<d.hi)) C [ht (jK (d.x 2)) W (j3 (d.x 2)), ht (jK (d.x 3)) ar (j3 (d.x 3)), gE ha 0] c2:=m.get 4 rfl rfl;obtain⟨dd,d'⟩:Bx C aA.lo #[ht gG 0 0, ht gG 0 0, gE ha 0] 95/\aA.hi=aA.lo+1:=m.get 8 rfl rfl;obtain⟨ec,ea⟩:Bx C aB.lo #[ht gG 0 0, ht gG 0 0, gE ha 0] 95/\aB.hi=aB.lo+1:=m.get 9 rfl rfl;have d4:=m.range 4 d rfl;have d7:=m.range 8 aA rfl;have d8:=m.range 9 aB rfl;have d5:=m.apart 4 8 d aA oF rfl rfl;have d6:=m.apart 4 9 d aB oF rfl rfl;have c6:=m.apart 8 9 aA aB oF rfl rfl;have bY:=m.below;rw[d'] at d7 d5 c6;rw[ea] at d8 d6 c6;clear m d' ea I N J O bh;generalize jK (d.x 0)=aC at *;generalize j3 (d.x 0)=aD at *;generalize jK (d.x 1)=aE at *;generalize j3 (d.x 1)=aF at *;generalize jK (d.x 2)=aZ at *;generalize j3 (d.x 2)=a0 at *;generalize jK (d.x 3)=a1 at *;generalize j3 (d.x 3)=a2 at *;generalize d.lo=lo at *;generalize d.hi=aw at *;generalize aA.lo=M8 at *;generalize aB.lo=M9 at *;clear eQ d aA aB;have dA:=iq bV bY;have em:=bY.size;have en:=bV.size;have aI:=mQ dd (ht aC G aD) (ht aE H aF) (gE ha 0) dA oM;obtain⟨a3,bc⟩:=nM (((C.setCell ⟨M8,0,gG⟩ (ht aC G aD)).setCell ⟨M8,1,gG⟩ (ht aE H aF)).setCell ⟨M8,2,gG⟩ (gE ha 0));rw[bc] at aI;have cd:Bx a3 M9 #[ht gG 0 0, ht gG 0 0, gE ha 0] 95:=(aI.same _ oM).trans ec;have aJ:=mQ cd (ht aZ W a0) (ht a1 ar a2) (gE ha 0) aI.below oM;obtain⟨f,cP⟩:=nM (((a3.setCell ⟨M9,0,gG⟩ (ht aZ W a0)).setCell ⟨M9,1,gG⟩ (ht a1 ar a2)).setCell ⟨M9,2,gG⟩ (gE ha 0));rw[cP] at aJ;have dl:f.heap.size=C.heap.size:=aJ.size.trans aI.size;have ck: ∀b,b≠M8->b≠M9->f.heap[b]?=C.heap[b]?:=fun b eA bi=>(aJ.same b bi).trans (aI.same b eA);have a5: ∀b,(S b\/(lo<=b/\b<aw))->b≠M8/\b≠M9/\b<C.heap.size:=fun b a=>by rcases a with a|a;have:=e b a;omega;omega
   have bL:Bx f M8 #[ht aC G aD, ht aE H aF, gE ha 0] 95:=(aJ.same _ oM).trans aI.box;have P:=cx.1.same (w':=f) (T:=fun b=>(S b\/(lo<=b/\b<aw))/\b<f.heap.size) (fun b a=>ck b (a5 b a).1 (a5 b a).2.1) fun b a=>⟨a,by rw[dl];exact(a5 b a).2.2⟩;have am:=cx.2.same (w':=f) (T:=fun b=>(S b\/(lo<=b/\b<aw))/\b<f.heap.size) (fun b a=>ck b (a5 b a).1 (a5 b a).2.1) fun b a=>⟨a,by rw[dl];exact(a5 b a).2.2⟩;have bM:Bx f aH #[ht ae cj Y, ht ag ci aa, gE ha ch] 95:=(ck aH (by have:=a4.lt;omega) (by have:=a4.lt;omega)).trans (a4.gD bY);have ep:=gF (gK bL (gK aJ.box (gK P (gK am (gK aJ.below bM)))));have cm:=gF (gK (gK bc cP) (gK cd (gK d4 (gK em en))));obtain⟨I,N,fa⟩:=dd.c3;obtain⟨J,O,fb⟩:=cd.c3;clear bc cP aI aJ dl ck a5 bL P am bM cd dd ec cx d4 d7 d8 d5 d6 c6 bY dA em en ee a4 bV;focus
    refine iG 10 fun K hK=>?_;go_simp;refine hK _ _ ?_;clear hK K;rw[cm.o.1.1];refine iG 11 fun K hK=>?_;go_simp;refine hK _ _ ?_;clear hK K;rw[cm.o.1.2];refine kS ?_;obtain⟨bL,ei,P,am,a7,bM⟩:=ep.o;have fs:=a7.size;obtain⟨aj,bu⟩: ∃aj:Nat->Prop,aj=fun b=>(S b\/(lo<=b/\b<aw))/\b<f.heap.size:=⟨_,rfl⟩;rw[<-bu] at P am;have au: ∀b,aj b->b<f.heap.size:=fun b a=>by rw[bu] at a;exact a.2
    have bv: ∀b,aj b->S b\/(w.heap.size<=b/\b<f.heap.size):=fun b a=>by rw[bu] at a;obtain⟨e0,e1,el⟩:=cm.o.2.2;rcases a.1 with h|h;exact .inl h;exact .inr ⟨oM,a.2⟩
    have d2:jf aj f (il ae Y ag aa y) y:=(ah.o.2.2.keep e a7).up fun b a=>by rw[bu];exact⟨.inl a,by have:=e b a;omega⟩
    have ak:=fun(D:jv f)=>Cl c2 y aZ a1 a0 a2 ae ag Y aa D.w (S:=aj) (fun b a=>iU (au b a) D.h.size) (by rw[ai.o.2.2.2];exact am.keep au D.h) (d2.keep au D.h) bf.o.1 (by have:=s.o.2.2.2.1;omega) bf.o.2 (by have:=s.o.2.2.2.2;omega);rw[aq.o.2] at ak;simp only[ai.o.2.2.2] at ak;obtain⟨aO,bn⟩:=nM ((ig c2 y).ps.length);obtain⟨aP,bo⟩:=nM ((ig c2 y).gC.length);have ab:=vw (n:=ig c2 y) rfl;simp only[bn,bo] at ab;have aM:=gF (gK ak (gK ab (fun(D:jv f) b (a:aj b)=>iU (au b a) D.h.size)));have es:=gF (gK P (gK au bv));obtain⟨I,N⟩:=bL.c2;obtain⟨J,O⟩:=ei.c2;obtain⟨ct,c4⟩:=bM.c2;have bh:=jv.cells f;clear ak ab bn bo d2 au bv P am bL ei bM bu;go_upto_region 10 with fail
    refine pS 4 2 #[gL,gL,gL,gL,gH,gH] (fun i=>if i=3 then gP (qW aj (ig c2 y) aO aP) else gG) oP oO oO oP ?_;simp only[hq,hy];refine LW.b 3 3 ?_;simp only[jC];repeat (go_big_quiet_step (fail))
    refine hn ?_;refine LW.z ?_ ?_;. intro cg _;unfold ix;go_simp;exact vv (aM.o.2.2 _) aM.o.2.1 (aM.o.1 _)
    intro g;simp only[hh,gU,qW];refine LW.done ?_;intro w9 m;have an:jf (fun b=>aj b\/(g.lo<=b/\b<g.hi)) w9 [ht (jK (g.x 0)) aO (j3 (g.x 0)), ht (jK (g.x 1)) aP (j3 (g.x 1)), gE ha 0] (ig c2 y):=m.get 3 rfl rfl;have ao:=m.range 3 g rfl;have A:=m.below;have cl:=gF (gK an (gK ao A));clear m an ao A I N J O ct c4 bh;refine iG 4 fun K hK=>?_;go_simp;refine hK _ _ ?_;clear hK K;refine iG 5 fun K hK=>?_;go_simp;refine hK _ _ ?_;clear hK K;refine kS ?_;go_wp2_with fail
    go_meet
    obtain⟨an,ao,A⟩:=cl.o;obtain⟨P,au,bv⟩:=es.o;have eJ:=A.size;refine .inl ⟨by trivial,?_⟩;exact Gv (c1:=[ht aC G aD, ht aE H aF, gE ha 0]) (c2:=[ht (jK (g.x 0)) aO (j3 (g.x 0)), ht (jK (g.x 1)) aP (j3 (g.x 1)), gE ha 0]) cn.o (iq a7 A) ((P.keep au A).up fun b a=>(bv b a).imp id fun h=>⟨h.1,oM⟩)
     (an.up fun b a=>by
      rcases a with a|a;. exact(bv b a).imp id fun h=>⟨h.1,oM⟩
      . exact .inr ⟨oM,oM⟩) e
   all_goals intro cg _;unfold ix;go_simp;exact s9 _
  | false=>
   go_wp2_with fail
   go_meet
   exact .inr ⟨by trivial,rfl,rfl⟩
 case rest=>
 obtain⟨C,dU⟩:=nM wc;rw[dU] at hcut |-;have bO:=gF hcut;clear hcut;go_upto_region 11 with fail
 go_cut [62] (fun eV t=>eV= hA (decide (k=0)&&y.jO)/\hg C.heap.size C t)
 case first=>
  by_cases q:k=0
  .
   subst q;have bj:C=w5:=by rcases bO.o with⟨h,-⟩|⟨-,-,h⟩;rw[<-ba] at h;simp at h;exact h
   rw[bj];have a4:=F.o.2.2.2.gD E;obtain⟨J,O⟩:=a4.c2;go_wp2_with (first| (refine(ds.o w5).mono ?_;rintro L a3 ⟨rfl,z⟩)|fail)
   go_meet
   exact⟨oC,by rw[bj];exact z⟩
  have dI:((k:Int)==0)=false:=by simp[q]
  go_wp2_with fail
  go_meet
  exact⟨by simp[q],hI _ _⟩
 case rest=>
 obtain⟨rfl,z⟩:=hcut;obtain⟨a3,bc⟩:=nM wc;rw[bc] at z |-;obtain⟨et,cF⟩:=nM ((decide (k=0)&&y.jO));rw[cF]
 go_upto_if 62 with fail
 go_cut [8,11,12] (fun ca _ _ t=> ∃R c2,ca= ht R T.length c2/\jk R T.length c2/\jw (fun b=>S b\/(w.heap.size<=b/\b<t.heap.size)) t R T/\hg w.heap.size w t)
 case first=>
  cases et with
  | true=>
   have q:k=0/\y.jO=true:=by simpa using cF
   have bj:C=w5:=by rcases bO.o with⟨h,-⟩|⟨-,-,h⟩;rw[<-ba,q.1] at h;simp at h;exact h
   rw[bj] at z;have ac:T=[ig x (jo y 1).1,(jo y 1).2]:=by rw[<-a9,show decide (0<k)=gH by simp[q.1]];exact NB s.o.1 s.o.2.1 q.2
   have aW:=s.o.2.1.ou q.2;have al:=Gu y 1;have b1:=Gt y 1;have bm:=iq (iq F.o.2.1 E) z;have B:=Gs y 1 ae ag Y aa a3 (S:=S) (fun b h=>iU (e b h) bm.size) (ah.o.2.2.keep e bm) oF aW.2.2.1;obtain⟨c1,bF⟩:=nM ((jo y 1).1);obtain⟨c2,bG⟩:=nM ((jo y 1).2);rw[bF,bG] at ac al B b1;rw[aq.o.2,show((1:Nat):Int)=1 from rfl] at B;have bf:Hid (c1.ps.length<=1000/\c1.gC.length<=1000):=gF (by have:=s.o.2.2.2;omega);have ay:=vw al.1;have M:=vw al.2;obtain⟨G,bz⟩:=nM c1.ps.length;obtain⟨H,bA⟩:=nM c1.gC.length;obtain⟨W,bB⟩:=nM c2.ps.length;obtain⟨ar,bC⟩:=nM c2.gC.length;simp only[bz,bA] at ay;simp only[bB,bC] at M;unfold uy at B;simp only[ay,M] at B;have de:=(F.o.2.2.1.gD E).gD z;have eh:=(F.o.2.2.2.gD E).gD z;obtain⟨I,N⟩:=de.c2;obtain⟨J,O⟩:=eh.c2;have ai:=gF B;have cn:=gF ac;have dq:=gF (gK ay M);clear B ac ay M aW al b1 q bF bG bz bA bB bC;clear bj;go_wp2_with fail;refine ai.o.mono ?_;rintro L f ⟨bZ,aC,aD,aE,aF,aZ,a0,a1,a2,rfl,P,am⟩;go_upto_region 13 with fail
   have a7:=iq bm bZ;obtain⟨w9,bK⟩:=nM ((f.alloc (hF #[ht aC G aD, ht aE H aF, gE ha 0] 95)).alloc (hF #[ht aZ W a0, ht a1 ar a2, gE ha 0] 95));have ej:Bx w9 f.heap.size #[ht aC G aD, ht aE H aF, gE ha 0] 95:=by rw[<-bK];exact(Bx.new _ _ _).alloc _
   have ek:Bx w9 (f.heap.size+1) #[ht aZ W a0, ht a1 ar a2, gE ha 0] 95:=by rw[<-bK];exact Bx.ir _ _ _ _ oC
   have A:hg f.heap.size f w9:=by rw[<-bK];exact(Below.one _ _).alloc oC _
   rw[bK];have a8:=iq a7 A;have ef:=(de.gD bZ).gD A;have e4:=A.size;have e3:=bZ.size;have e2:=bm.size;have av: ∀b,(S b\/(w.heap.size<=b/\b<w9.heap.size))->b<w9.heap.size:=fun b a=>by rcases a with h|h;have:=e b h;omega;exact h.2
   have cK: ∀b,(S b\/(a3.heap.size<=b/\b<f.heap.size))->b<f.heap.size:=fun b a=>by rcases a with h|h;have:=e b h;omega;exact h.2
   have cO: ∀b,(S b\/(a3.heap.size<=b/\b<f.heap.size))->S b\/(w.heap.size<=b/\b<w9.heap.size):=fun b a=>a.imp id fun h=>⟨oM,oM⟩;have d0:=(P.keep cK A).up cO;have m2:=(am.keep cK A).up cO;have d1:jf (fun b=>S b\/(w.heap.size<=b/\b<w9.heap.size)) w9 (il ad X af Z x) x:=(ah.o.2.1.keep e a8).up fun b a=> .inl a;have ak:=fun(D:jv w9)=>Cl x c1 ad af X Z aC aE aD aF D.w (S:=fun b=>S b\/(w.heap.size<=b/\b<w9.heap.size)) (fun b a=>iU (av b a) D.h.size) (d1.keep av D.h) (by rw[dq.o.1];exact d0.keep av D.h) (by have:=s.o.2.2.1.1;omega) bf.o.1 (by have:=s.o.2.2.1.2;omega) bf.o.2;rw[aq.o.1] at ak;simp only[dq.o.1] at ak;obtain⟨aO,bn⟩:=nM ((ig x c1).ps.length);obtain⟨aP,bo⟩:=nM ((ig x c1).gC.length);have ab:=vw (n:=ig x c1) rfl;simp only[bn,bo] at ab;have aM:=gF (gK ak (gK ab (fun(D:jv w9) b (a:S b\/(w.heap.size<=b/\b<w9.heap.size))=>iU (av b a) D.h.size)));have cl:=gF (gK m2 (gK a8 av));clear I N J O;obtain⟨I,N⟩:=ef.c2;obtain⟨J,O⟩:=ej.c2;obtain⟨ct,c4⟩:=ek.c2;have bh:=jv.cells w9;clear ak ab bn bo d1 d0 m2 P am cO cK av e2 e3 e4 a8 A ej ek ef bK a7 bZ bm de eh ai z;refine pS 4 2 #[gL,gL,gL,gL,gH,gH] (fun i=>if i=2 then gP (qW (fun b=>S b\/(w.heap.size<=b/\b<w9.heap.size)) (ig x c1) aO aP) else gG) oP oO oO oP ?_;simp only[hq,hy];refine LW.b 2 2 ?_;simp only[jC];repeat (go_big_quiet_step (fail))
   refine hn ?_;refine LW.z ?_ ?_;. intro cg _;unfold ix;go_simp;exact vv (aM.o.2.2 _) aM.o.2.1 (aM.o.1 _)
   intro g;simp only[hh,gU,qW];refine LW.b 1 4 ?_;simp only[jC];repeat (go_big_quiet_step (fail))
   refine hn ?_;refine LW.done ?_;intro eX m;have an:jf (fun b=>(S b\/(w.heap.size<=b/\b<w9.heap.size))\/(g.lo<=b/\b<g.hi)) eX [ht (jK (g.x 0)) aO (j3 (g.x 0)), ht (jK (g.x 1)) aP (j3 (g.x 1)), gE ha 0] (ig x c1):=m.get 2 rfl rfl;have ao:=m.range 2 g rfl;have a':=m.below;have eo:=gF (gK an (gK ao a'));clear m an ao a' I N J O ct c4 bh;refine iG 4 fun K hK=>?_;go_simp;refine hK _ _ ?_;clear hK K;refine iG 5 fun K hK=>?_;go_simp;refine hK _ _ ?_;clear hK K;refine kS ?_;go_wp2_with fail
   go_meet
   obtain⟨an,ao,a'⟩:=eo.o;obtain⟨m2,a8,av⟩:=cl.o;have eJ:=a8.size;have fp:=a'.size;exact Gv (c1:=[ht (jK (g.x 0)) aO (j3 (g.x 0)), ht (jK (g.x 1)) aP (j3 (g.x 1)), gE ha 0]) (c2:=[ht aZ W a0, ht a1 ar a2, gE ha 0]) cn.o (iq a8 a')
    (an.up fun b a=>by
     rcases a with (a|a)|a;. exact .inl a
     . exact .inr ⟨oM,oM⟩
     . exact .inr ⟨oM,oM⟩)
    ((m2.keep av a').up fun b a=>a.imp id fun h=>⟨h.1,oM⟩) e
  | false=>
   go_wp2_with fail
   go_meet
   rcases bO.o with⟨a,R,c2,cv,b4,bp,dx⟩|⟨a,cv,rfl⟩;have fo:=z.size;exact⟨R,c2,cv,b4,(bp.keep (fun b a=>by rcases a with h|h;have:=e b h;have:=dx.size;omega;exact h.2) z).up fun b a=>a.imp id fun h=>⟨h.1,oM⟩,iq dx z⟩
   have ac:T=[ig x y]:=by
    rw[<-a9];refine NC ?_;rw[a] at ba
    by_cases ey:0<k
    simpa[ey] using ba;have ez:k=0:=oM
    simpa[ez] using cF
   have fr:=F.o.2.1.size;have cG:=iq E z;have ft:=cG.size;exact⟨gP ⟨aG.heap.size,0,gG⟩,1,by rw[cv,ac];rfl,by rw[ac];exact .inr ⟨_,rfl,hr _,by simp[hM]⟩,by rw[ac];exact(F.o.1.keep (fun b a=>by rcases a with h|h;have:=e b h;omega;exact h.2) cG).up fun b a=>a.imp id fun h=>⟨h.1,oM⟩,iq F.o.2.1 cG⟩
 case rest=>
 obtain⟨V,dR⟩:=nM wc;rw[dR] at hcut |-;obtain⟨R,c2,rfl,b4,bp,bT⟩:=hcut;obtain⟨b',dL,dM,dN,dO⟩:=info_parts wC;have u:=gF (gK dL (gK dM (gK dN dO)));clear dL dM dN dO;have eI:T.length<=2:=by rw[<-a9];exact NF _ _ _
 have cp:Hid (kK l k=l.take i++T++l.drop (i+2)):=gF (by rw[co.o,a9]);obtain⟨c9,cN⟩:=nM T.length;rw[cN] at b4 eI |-;obtain⟨bg,bw⟩: ∃bg:Nat->Prop,bg=fun b=>S b\/(w.heap.size<=b/\b<V.heap.size):=⟨_,rfl⟩;rw[<-bw] at bp;have dZ:=bT.size;have bX: ∀b,bg b->b<V.heap.size:=fun b a=>by rw[bw] at a;rcases a with h|h;have:=e b h;omega;exact h.2
 have dE:jw bg V (gP ⟨v,U,gG⟩) l:=(ah.o.1.keep e bT).up fun b a=>by rw[bw];exact .inl a
 have aR:=iM.empty bg V V.heap.size V.heap.size rfl (hr _);have bk:=bT.alloc dZ (hF #[] 95);have br:=dE.keep bX (Below.one V (hF #[] 95));have bq:=bp.keep bX (Below.one V (hF #[] 95));have eF:i<=c:=oM
 have fj:i<=n:=oM
 have dt:=gF cN;have aK:=gF bX;have bN:=gF (gK aR (gK bk (gK br bq)));have eq:=gF bw;have eB:=gF dZ;clear dR bp bT cN bX dE aR bk br bq bw a9 z bc dU E dT aT dS bO;go_upto_region 15 with (at_builtin;go_loud (refine Aa rfl _ _ 93 rfl ho b' _ u.o.1 u.o.2.1 u.o.2.2.1 u.o.2.2.2 rfl aK.o oC (gP ⟨V.heap.size,0,gG⟩) 0 0 i [] (l.take i) rfl (by rw[List.length_take,aN.o];omega) rfl bN.o.1 (gP ⟨v,U,gG⟩) c rfl (.inr ⟨_,rfl,eF,vt az⟩) (bN.o.2.2.1.take i) oM ?_;intro c7 c5 fw aS bH))
 obtain⟨aR,bk,br,bq⟩:=bN.o;have b8:V.heap.size<=(V.alloc (hF #[] 95)).heap.size:=oC
 have cW:=eB.o;have bs:=br.jT aR aK.o b8 bH;have bW:=bq.jT aR aK.o b8 bH;have bl:=Below.jT bk aR cW bH;have bd:=jU b8 bH.size;rw[hJ,List.nil_append] at aS;have bJ:(l.take i).length=i:=by rw[List.length_take,aN.o];omega
 have a6:=gF (gK aS (gK bl (gK bs (gK bW (gK bd bJ)))));clear aR bk br bq b8 bs bW bl bd bH aS bJ bN;go_upto_region 16 with (at_builtin;go_loud (refine Aa rfl _ _ 93 rfl ho b' _ u.o.1 u.o.2.1 u.o.2.2.1 u.o.2.2.2 rfl aK.o a6.o.2.2.2.2.1 c7 c5 i c9 (l.take i) T a6.o.2.2.2.2.2 dt.o rfl a6.o.1 R c2 rfl b4 a6.o.2.2.2.1 oM ?_;intro d9 d3 fx bt b2))
 obtain⟨aS,bl,bs,bW,bd,bJ⟩:=a6.o;have cB:=bs.jT aS aK.o bd b2;have bU:=Below.jT bl aS cW b2;have b9:=jU bd b2.size;obtain⟨p,b3⟩:=nM (i+c9);have cL:(l.take i++T).length=p:=by rw[iI,bJ,dt.o,b3]
 have fl:p<=10:=oM
 rw[b3] at bt |-;have ap:=gF (gK bt (gK bU (gK cB (gK b9 cL))));have e6:=gF b3;have fm:(i:Int)+(c9:Int)=(p:Int):=oM
 clear aS bl bs bW bd bJ cB bU b9 cL bt b2 a6 b3;obtain⟨m2,cM⟩:=nM (n - (i+2));have fk:(n:Int) - ((i:Int)+2)=(m2:Int):=oM
 have dJ:(l.drop (i+2)).length=m2:=by rw[List.length_drop,aN.o,cM]
 have eK:i+2<=n:=oM
 have eL:i+2<=c:=oM
 have eM:(i:Int)+2<=(n:Int):=oM
 have eN:IntKind.i64.wrap ((i:Int)+2)=(i:Int)+2:=IntWalk.i64_in _ oM;have bP:=gF (gK cM dJ);clear cM dJ
 by_cases fg:c=i+2
 focus
  have fh:c - (i+2)=0:=oM
  have M:n=i+2:=oM
  have er:=gF M;clear M;go_wp2_with (at_builtin;go_loud (refine Aa rfl _ _ 93 rfl ho b' _ u.o.1 u.o.2.1 u.o.2.2.1 u.o.2.2.2 rfl aK.o ap.o.2.2.2.1 d9 d3 p _ (l.take i++T) (l.drop (i+2)) ap.o.2.2.2.2 (by rw[bP.o.2, <-bP.o.1]) rfl ap.o.1 _ _ rfl (.inr ⟨_,rfl,oM,by first|exact hL _| (have:=vt az;omega)⟩) (by rw[List.drop_of_length_le (by rw[aN.o,er.o];exact hr _)];exact jw.nil _ _ _) oM ?_;intro eR ao eY dF cH))
 rotate_left;focus go_wp2_with (at_builtin;go_loud (refine Aa rfl _ _ 93 rfl ho b' _ u.o.1 u.o.2.1 u.o.2.2.1 u.o.2.2.2 rfl aK.o ap.o.2.2.2.1 d9 d3 p _ (l.take i++T) (l.drop (i+2)) ap.o.2.2.2.2 (by rw[bP.o.2, <-bP.o.1]) rfl ap.o.1 _ _ rfl (.inr ⟨_,rfl,oM,by have:=vt az;omega⟩) (ap.o.2.2.1.drop (i+2)) oM ?_;intro eR ao eY dF cH))
 all_goals obtain⟨bt,bU,cB,b9,cL⟩:=ap.o;have eC:=Below.jT bU bt cW cH;have fq:=jU b9 cH.size;obtain⟨eO,eu,ew,eG,eD⟩:=dF.done;rw[<-dn.o];refine⟨eC,eO,eu,by rw[cp.o, <-ew];rfl,by rw[cp.o];exact eG,?_⟩;rw[cp.o];refine eD.up fun b a=>?_;rcases a with h|h;rw[eq.o] at h;exact h.imp id fun h=>⟨h.1,oM⟩;exact .inr ⟨oM,h.2⟩
end Go.Proofs.YtlefmmhlpgmbjaaGreat
